/-
  Get: what a request gets.
-/
import Derived.Test.YtpblaclhfcomeaaNetIs
import Derived.Deep.DeepCutAuto
import Derived.Deep.RegionHeld3
namespace Go.Proofs.Ytpblaclhfcomeaa
open Go.RowKit Go.Maps Go.MuLone

attribute [local go_sem] lt1 lt2 lt3 lt4 lt5 lt6

def GetPost (w : World) (nb pb fb ab : Nat) (S : NetSt) (u : ByteArray) (e : Ending) (w' : World) : Prop :=
  ∃ A, e = .returned (aV (ansOf S u).1 A (ansOf S u).2.1.length (ansOf S u).2.2) ∧ Own w' A (ansOf S u).2.1 ∧ (∀ a, A = some a → w.heap.size ≤ a.block) ∧ NetAt w' nb pb fb ab 0 (S.ask u) ∧ Fr [ab] w w'

/-- what stands where the two ways, a page or none, meet -/
def Meet (w w2 : World) (nb pb fb ab : Nat) (S : NetSt) (u : ByteArray) (there : Bool) (x : World) : Prop :=
  there = (look S.pages u).isSome ∧ NetAt x nb pb fb ab 1 (S.ask u) ∧ Below w2.heap.size w2 x ∧ w2.heap.size < x.heap.size ∧
  ∃ A, x.heap[w2.heap.size]? = some (.cells #[.int .i64 (ansBase S u).1, .slice A (ansBase S u).2.1.length (ansBase S u).2.1.length, .int .i64 (ansBase S u).2.2] 35 (0, 0)) ∧
    Fresh x there A (ansBase S u).2.1 ∧ (∀ a, A = some a → w2.heap.size < a.block)

theorem Fr.append_new {F G : List Nat} {a b c : World} (h : Fr F a b) (k : Fr G b c) (hG : ∀ j, j ∈ G → a.heap.size ≤ j) : Fr F a c :=
  ⟨k.os.trans h.os, k.tape.trans h.tape, k.output.trans h.output, Nat.le_trans h.size k.size, fun i hi hn =>
    (k.block i (Nat.lt_of_lt_of_le hi h.size) (fun hh => by have := hG i hh; omega)).trans (h.block i hi hn)⟩
theorem Fr.drop {F : List Nat} {n : Nat} {w w' : World} (h : Fr (n :: F) w w') (hn : w'.heap[n]? = w.heap[n]?) : Fr F w w' :=
  ⟨h.os, h.tape, h.output, h.size, fun k hk hh => by
    by_cases e : k = n
    · rw [e]; exact hn
    · exact h.block k hk (by simp [e, hh])⟩

/-- the last step: what the world is behind the deferred Unlock -/
theorem get_end {w x w6 : World} {nb pb fb ab : Nat} {S : NetSt} {u : ByteArray} {st tk : Int} {l : List UInt8} {A : Option Addr} (h : NetAt w nb pb fb ab 0 S)
    (hF : Fr [nb, ab] w x) (hown : Own x A l) (hnew : ∀ a, A = some a → w.heap.size ≤ a.block) (h6 : NetAt w6 nb pb fb ab 0 (S.ask u)) (F6 : Fr [nb] x w6) (hans : ansOf S u = (st, l, tk)) :
    GetPost w nb pb fb ab S u (.returned (aV st A l.length tk)) w6 := by
  have hlt := h.lt nb (by simp)
  unfold GetPost
  rw [hans]
  refine ⟨A, rfl, ?_, hnew, h6, ?_⟩
  · rcases hown with h0 | ⟨g, rfl, hg⟩
    · exact .inl h0
    · have := hnew _ rfl
      refine .inr ⟨g, rfl, (F6.block g (lt_of_heap hg) ?_).trans hg⟩
      simp
      simp at this
      omega
  · exact Fr.drop (n := nb) (hF.trans (F6.more (by simp))) (h6.blk.trans h.blk.symm)

/-- a kind's function is found, and called -/
theorem kinds_look {w : World} {kb : Nat} {o : Obj} {m : List (Int × Int)} {k : Int} (hb : w.heap[kb]? = some o) (T : TMap Try.prog 3 o IntKey (Does w) m) (hm : ∀ p ∈ m, p.1 = p.2) (hl : look m k = some k) (hk : 1 ≤ k ∧ k ≤ 7) :
    ∃ v, Does w v k ∧ (Instr.lookup 88 (.map (some kb)) (.int .i64 k) false).run Try.prog w = .ok v w := by
  obtain ⟨v, ok, hL, hrun⟩ := T.lookup int_law Try.underlying88 intKey_inj (z := .nilFunc) (fun w => by kernel_rfl) (int_key k (by omega))
  rcases hL with ⟨h1, _⟩ | ⟨y, h1, h2, _⟩
  · rw [hl] at h1; cases h1
  · rw [hl] at h1
    cases h1
    exact ⟨v, h2, hrun w kb false hb⟩

theorem Fresh.below {w w' : World} {there : Bool} {A : Option Addr} {l : List UInt8} (h : Fresh w there A l) (hb : Below w.heap.size w w') : Fresh w' there A l := by
  rcases h with h | ⟨h1, h2, g, h3, h4⟩
  · exact .inl h
  · exact .inr ⟨h1, h2, g, h3, (hb.block g (lt_of_heap h4)).trans h4⟩
theorem Row8.below {w w' : World} {g : Nat} {l : List UInt8} (h : Row8 w g l) (hb : Below w.heap.size w w') : Row8 w' g l := (hb.block g (lt_of_heap h)).trans h
theorem Fresh.blk_lt {w : World} {there : Bool} {A : Option Addr} {l : List UInt8} (h : Fresh w there A l) : ∀ j, j ∈ blk A → j < w.heap.size := by
  intro j hj
  rcases h with ⟨_, rfl, _⟩ | ⟨_, _, g, rfl, h4⟩
  · simp [blk] at hj
  · simp [blk] at hj
    subst hj
    exact lt_of_heap h4

theorem three_far (w : World) (r b i : Nat) (v0 v1 v2 : Value) {c : Option Value} (h : r ≠ b) (hc : w.cell? ⟨b, i, none⟩ = c) :
    (((w.setCell ⟨r, 0, none⟩ v0).setCell ⟨r, 1, none⟩ v1).setCell ⟨r, 2, none⟩ v2).cell? ⟨b, i, none⟩ = c := by
  rw [World.cell?_setCell_far _ _ _ _ h, World.cell?_setCell_far _ _ _ _ h, World.cell?_setCell_far _ _ _ _ h]
  exact hc
theorem three_at {w : World} {r : Nat} {c0 c1 c2 : Value} {t : TypeId} (h : w.heap[r]? = some (.cells #[c0, c1, c2] t (0, 0))) (v0 v1 v2 : Value) :
    (((w.setCell ⟨r, 0, none⟩ v0).setCell ⟨r, 1, none⟩ v1).setCell ⟨r, 2, none⟩ v2).heap[r]? = some (.cells #[v0, v1, v2] t (0, 0)) :=
  heap_setCell_at (heap_setCell_at (heap_setCell_at h 0 v0) 1 v1) 2 v2
theorem three_fr (w : World) (r : Nat) (v0 v1 v2 : Value) : Fr [r] w (((w.setCell ⟨r, 0, none⟩ v0).setCell ⟨r, 1, none⟩ v1).setCell ⟨r, 2, none⟩ v2) :=
  ((Fr.setCell _ _ _ _ (by simp)).trans (Fr.setCell _ _ _ _ (by simp))).trans (Fr.setCell _ _ _ _ (by simp))

set_option maxHeartbeats 4000000 in
set_option maxRecDepth 100000 in
theorem get_any (w : World) (nb pb fb ab : Nat) (S : NetSt) (u : ByteArray) (h : NetAt w nb pb fb ab 0 S) (hu : u.size ≤ maxLen) (hc : nth S u < 4611686018427387904) :
    Calls Try.prog 10 #[.pointer (some ⟨nb, 0, none⟩), .string u] w (GetPost w nb pb fb ab S u) := by
  have H := Lib.hid h
  have hnlt := h.lt nb (by simp)
  clear h
  go_enter_defers Try.func10, Try.ntmps10
  go_wp2_with fail
  refine (lock_at _ (H.out.below ((Below.refl _ _).alloc (Nat.le_refl _) _))).mono ?_
  rintro e w1 ⟨rfl, h1, F1⟩
  -- the count
  have c1 := blk_cells h1.blk
  have r1 := blk_cells (w := w1) (b := w.heap.size) (cs := #[.int .i64 0, .slice none 0 0, .int .i64 0]) (t := 35) ((F1.block _ (by simp) (by simp; omega)).trans (heap_alloc_new w _))
  have l1 := h1.ask_look hu w1 rfl
  obtain ⟨w2, l2, h2, F2⟩ := h1.ask_put hu
  have c2 := blk_cells h2.blk
  have n3 := h2.ne_nb.2.2
  have r2 := blk_cells (w := w2) (b := w.heap.size) (cs := #[.int .i64 0, .slice none 0 0, .int .i64 0]) (t := 35) ((F2.block _ r1.2.2 (by have := H.out.lt ab (by simp); simp; omega)).trans ((F1.block _ (by simp) (by simp; omega)).trans (heap_alloc_new w _)))
  obtain ⟨pv, there, hL, hpl⟩ := h2.page_look hu
  have l3 := hpl w2 rfl
  have H1 := Lib.hid h1
  have HF1 := Lib.hid F1
  have H2 := Lib.hid h2
  have HF2 := Lib.hid F2
  have HL := Lib.hid hL
  clear h1 F1 h2 F2 hpl hL
  have hnz := H2.out.lt
  have Hw2 : Hid (w.heap.size < w2.heap.size) := Lib.hid r2.2.2
  go_upto_if 34 with (fail)
  go_cut [] from 34 to 37 (fun x => Meet w w2 nb pb fb ab S u there x)
  case first =>
    rcases HL.out with ⟨hp, rfl, rfl⟩ | ⟨d, hp, ⟨hdl, g, rfl, hg⟩, rfl⟩
    · have Hp := Lib.hid hp
      clear hp
      go_wp2_with fail
      go_meet
      have e1 : ansBase S u = (404, [], 1) := by unfold ansBase; rw [show look S.pages u = none from Hp.out]
      refine ⟨by rw [show look S.pages u = none from Hp.out]; rfl, H2.out.below ((Below.refl _ _).alloc (Nat.le_refl _) _), (Below.refl _ _).alloc (Nat.le_refl _) _, by simp, none, ?_, ?_, by simp⟩
      · rw [e1]; exact heap_alloc_new w2 _
      · rw [e1]; exact .inl ⟨rfl, rfl, rfl⟩
    · have Hg := Lib.hid hg
      have Hp := Lib.hid hp
      clear hg hp
      have hgl := lt_of_heap Hg.out
      go_wp2_with fail
      refine (fresh_at d _ _ _ _ rfl hdl ?_).mono ?_
      · exact (Hg.out.bs hdl).keep (Cells.alloc _ _)
      rintro e w3 ⟨g3, rfl, hh, hge, hb⟩
      simp at hge
      have hw3 : w3.heap[w2.heap.size]? = some (.cells #[.int .i64 404, .slice none 0 0, .int .i64 1] 35 (0, 0)) := (hb.block _ (by simp)).trans (heap_alloc_new w2 _)
      have c3 := blk_cells hw3
      have Hw3 := Lib.hid hw3
      clear hw3
      have hb3 : Below w2.heap.size w2 w3 := ((Below.refl _ _).alloc (Nat.le_refl _) _).trans (hb.mono (by simp))
      have Hh := Lib.hid hh
      have Hb3 := Lib.hid hb3
      clear hh hb hb3
      go_wp2_with fail
      go_meet
      have e1 : ansBase S u = (200, d, 1) := by unfold ansBase; rw [show look S.pages u = some d from Hp.out]
      have hb4 := ((Hb3.out.setCell (p := ⟨w2.heap.size, 0, none⟩) (Nat.le_refl _) (.int .i64 200)).setCell (p := ⟨w2.heap.size, 1, none⟩) (Nat.le_refl _) (.slice (some ⟨g3, 0, none⟩) d.length d.length)).setCell (p := ⟨w2.heap.size, 2, none⟩) (Nat.le_refl _) (.int .i64 1)
      refine ⟨by rw [show look S.pages u = some d from Hp.out]; rfl, H2.out.below hb4, hb4, by simpa using c3.2.2, some ⟨g3, 0, none⟩, ?_, ?_, by intro a ha; cases ha; simp; omega⟩
      · rw [e1]
        exact heap_setCell_at (heap_setCell_at (heap_setCell_at Hw3.out 0 (.int .i64 200)) 1 (.slice (some ⟨g3, 0, none⟩) d.length d.length)) 2 (.int .i64 1)
      · rw [e1]
        refine .inr ⟨rfl, hdl, g3, rfl, ?_⟩
        rw [Below.heap_setCell _ _ _ _ (by simp; omega), Below.heap_setCell _ _ _ _ (by simp; omega), Below.heap_setCell _ _ _ _ (by simp; omega)]
        exact Hh.out
  case rest =>
    obtain ⟨hth, h5, hb5, hlt5, A, hans, hfresh, hnew⟩ := hcut
    obtain ⟨k, hk⟩ : ∃ k, k = nth S u + 1 := ⟨_, rfl⟩
    have c5 := blk_cells h5.blk
    have a5 := blk_cells hans
    have hask : ∀ x : World, x.heap[ab]? = wc.heap[ab]? → (Instr.lookup 72 (.map (some ab)) (.string u) false).run Try.prog x = .ok (.int .i64 k) x := by
      intro x hx
      have := h5.ask_look hu x hx
      rw [nth_ask, if_pos rfl, ← hk] at this
      exact this
    obtain ⟨fv, isf, hLf, hfl⟩ := h5.fault_look (k := (k : Int)) hu (by omega)
    have hlt := h5.lt
    have la1 := hask wc.drew rfl
    have la2 := fun o => hask (wc.alloc o).drew (Below.heap_alloc _ _ _ (hlt ab (by simp)))
    have lf1 := hfl wc.drew rfl
    have lf2 := fun o => hfl (wc.alloc o).drew (Below.heap_alloc _ _ _ (hlt fb (by simp)))
    have ca : ∀ (o : Obj) (i : Nat), (wc.alloc o).drew.cell? ⟨nb, i, none⟩ = (#[.int .i32 1, .int .u32 0, .map (some pb), .map (some fb), .map (some ab)] : Array Value)[i]? := fun o i => (World.cell?_alloc_lt wc o ⟨nb, i, none⟩ c5.2.2).trans (c5.1 i)
    have hR5 : wc.heap[w.heap.size]? = some (.cells #[.int .i64 0, .slice none 0 0, .int .i64 0] 35 (0, 0)) := (hb5.block _ r2.2.2).trans ((HF2.out.block _ r1.2.2 (by have := H.out.lt ab (by simp); simp; omega)).trans ((HF1.out.block _ (by simp) (by simp; omega)).trans (heap_alloc_new w _)))
    have r5 := blk_cells hR5
    have HR5 := Lib.hid hR5
    have HFw : Hid (Fr [nb, ab] w wc) := Lib.hid ((((Fr.alloc _ w _).trans (HF1.out.more (by simp))).trans (HF2.out.more (by simp))).trans (Fr.of_below hb5 _))
    have Hrn : Hid (w.heap.size ∉ [nb, pb, fb, ab]) := Lib.hid (fun hh => Nat.lt_irrefl _ (H.out.lt _ hh))
    clear hR5
    have Hk := Lib.hid hk
    have Hth := Lib.hid hth
    have H5 := Lib.hid h5
    have Hb5 := Lib.hid hb5
    have Hans := Lib.hid hans
    have Hfresh := Lib.hid hfresh
    have Hnew := Lib.hid hnew
    have HLf := Lib.hid hLf
    clear hk hth h5 hb5 hans hfresh hnew hLf hask hfl c1 r1 l1 l2 c2 r2 l3 hlt
    rcases HLf.out with ⟨hf, rfl, rfl⟩ | ⟨f, hf, ⟨hdl, hn0, hn1, hk1, hk7, g, rfl, hg⟩, rfl⟩
    · have Hf := Lib.hid hf
      clear hf
      unfold noFault fV at *
      go_wp2_with fail
      go_region_held3 (fun w' => w'.cell? ⟨nb, 3, none⟩ = some (.map (some fb)) ∧ w'.cell? ⟨nb, 4, none⟩ = some (.map (some ab)) ∧ (Instr.lookup 72 (.map (some ab)) (.string u) false).run Try.prog w' = .ok (.int .i64 k) w' ∧
          (Instr.lookup 71 (.map (some fb)) (.agg #[.string u, .int .i64 k]) true).run Try.prog w' = .ok (.tuple #[.agg #[.string { data := #[] }, .int .i64 0, .int .i64 0, .int .i64 0, .slice none 0 0], .bool false]) w')
        (first | exact ⟨c5.1 3, c5.1 4, la1, lf1⟩ | exact ⟨ca _ 3, ca _ 4, la2 _, lf2 _⟩)
        (first | fail)
      all_goals
        clear la1 la2 lf1 lf2 ca
        go_wp2_with fail
        refine leaves_cons (f := 33) (args := #[.pointer (some ⟨nb, 0, none⟩)]) (by simp) (by simp [go_sem]) ?_
        clear c5 a5 r5
        have hFx : Fr [w.heap.size] wc ((((wc.setCell ⟨w.heap.size, 0, none⟩ (.int .i64 (ansBase S u).1)).setCell ⟨w.heap.size, 1, none⟩ (.slice A (ansBase S u).2.1.length (ansBase S u).2.1.length)).setCell ⟨w.heap.size, 2, none⟩ (.int .i64 (ansBase S u).2.2)).alloc
            (.cells #[.string { data := #[] }, .int .i64 0, .int .i64 0, .int .i64 0, .slice none 0 0] 38)).drew :=
          (((Fr.setCell _ _ _ _ (by simp)).trans (Fr.setCell _ _ _ _ (by simp))).trans (Fr.setCell _ _ _ _ (by simp))).trans ((Fr.alloc _ _ _).drewN 1)
        have hres := heap_setCell_at (heap_setCell_at (heap_setCell_at HR5.out 0 (.int .i64 (ansBase S u).1)) 1 (.slice A (ansBase S u).2.1.length (ansBase S u).2.1.length)) 2 (.int .i64 (ansBase S u).2.2)
        have hres2 := (Below.heap_alloc _ (.cells #[.string { data := #[] }, .int .i64 0, .int .i64 0, .int .i64 0, .slice none 0 0] 38) _ (lt_of_heap hres)).trans hres
        have hxx := H5.out.fr hFx (by intro j hj; simp at hj; subst hj; exact Hrn.out) (by intro j hj l hl; simp at hj; subst hj; unfold Row8 at hl; rw [HR5.out] at hl; simp at hl)
        refine (unlock_at .returning _ hxx).mono ?_
        rintro e u' w6 ⟨rfl, rfl, h6, F6⟩
        refine ⟨aV (ansBase S u).1 A (ansBase S u).2.1.length (ansBase S u).2.2, ?_, ?_⟩
        · have r6 := blk_cells ((F6.block _ (lt_of_heap hres2) (by simp; omega)).trans hres2)
          simp [aV, results, Try.results10, go_sem, r6]
        · have hL2 := Hfresh.out
          refine get_end H.out (HFw.out.fresh (g := w.heap.size) (Nat.le_refl _) (hFx.more (by simp))) ?_ ?_ h6 F6 ?_
          · rcases hL2 with ⟨_, hA, hl⟩ | ⟨_, _, g, hA, hg⟩
            · exact .inl ⟨hA, hl⟩
            · refine .inr ⟨g, hA, (hFx.block g (lt_of_heap hg) ?_).trans hg⟩
              have := Hnew.out _ hA
              have := Hw2.out
              simp at *
              omega
          · intro a ha
            have := Hnew.out _ ha
            have := Hw2.out
            omega
          · unfold ansOf
            rw [show ((nth S u + 1 : Nat) : Int) = (k : Int) by rw [Hk.out], show look S.faults (u, (k : Int)) = none from Hf.out]
    · have Hf := Lib.hid hf
      have Hg := Lib.hid hg
      clear hf hg
      unfold fV at lf1 lf2
      go_wp2_with fail
      go_region_held3 (fun w' => w'.cell? ⟨nb, 3, none⟩ = some (.map (some fb)) ∧ w'.cell? ⟨nb, 4, none⟩ = some (.map (some ab)) ∧ (Instr.lookup 72 (.map (some ab)) (.string u) false).run Try.prog w' = .ok (.int .i64 k) w' ∧
          (Instr.lookup 71 (.map (some fb)) (.agg #[.string u, .int .i64 k]) true).run Try.prog w' = .ok (.tuple #[.agg #[.string f.u, .int .i64 f.att, .int .i64 f.kind, .int .i64 f.n, .slice (some ⟨g, 0, none⟩) f.data.length f.data.length], .bool true]) w')
        (first | exact ⟨c5.1 3, c5.1 4, la1, lf1⟩ | exact ⟨ca _ 3, ca _ 4, la2 _, lf2 _⟩)
        (first | fail)
      all_goals
        clear la1 la2 lf1 lf2 ca
        go_wp2_with fail
        have hfb : ((wc.alloc (.cells #[.string f.u, .int .i64 f.att, .int .i64 f.kind, .int .i64 f.n, .slice (some ⟨g, 0, none⟩) f.data.length f.data.length] 38)).drew).heap[wc.heap.size]? = some (.cells #[.string f.u, .int .i64 f.att, .int .i64 f.kind, .int .i64 f.n, .slice (some ⟨g, 0, none⟩) f.data.length f.data.length] 38 (0, 0)) := heap_alloc_new wc _
        have hbx : Below wc.heap.size wc ((wc.alloc (.cells #[.string f.u, .int .i64 f.att, .int .i64 f.kind, .int .i64 f.n, .slice (some ⟨g, 0, none⟩) f.data.length f.data.length] 38)).drew) := ((Below.refl _ _).alloc (Nat.le_refl _) _).drew
        have hxs : wc.heap.size < ((wc.alloc (.cells #[.string f.u, .int .i64 f.att, .int .i64 f.kind, .int .i64 f.n, .slice (some ⟨g, 0, none⟩) f.data.length f.data.length] 38)).drew).heap.size := by simp
        generalize ((wc.alloc (.cells #[.string f.u, .int .i64 f.att, .int .i64 f.kind, .int .i64 f.n, .slice (some ⟨g, 0, none⟩) f.data.length f.data.length] 38)).drew) = x at *
        have fx := blk_cells hfb
        have ax := blk_cells ((hbx.block _ a5.2.2).trans Hans.out)
        have rx := blk_cells ((hbx.block _ r5.2.2).trans HR5.out)
        have hgx := Hg.out.below hbx
        have hfrx := Hfresh.out.below hbx
        have hnA : ∀ j, j ∈ blk A → w2.heap.size < j ∧ j < wc.heap.size := by
          intro j hj
          refine ⟨?_, Hfresh.out.blk_lt j hj⟩
          cases hA : A with
          | none => rw [hA] at hj; simp [blk] at hj
          | some a => rw [hA] at hj; simp [blk] at hj; subst hj; exact Hnew.out a hA
        have Hgx := Lib.hid hgx
        have Hfrx := Lib.hid hfrx
        have HnA := Lib.hid hnA
        clear hgx hfrx hnA
        have Hfb := Lib.hid hfb
        have Hbx := Lib.hid hbx
        clear hfb hbx a5 r5 c5
        go_region_held3 (fun w' => (∀ i, w'.cell? ⟨wc.heap.size, i, none⟩ = (#[.string f.u, .int .i64 f.att, .int .i64 f.kind, .int .i64 f.n, .slice (some ⟨g, 0, none⟩) f.data.length f.data.length] : Array Value)[i]?) ∧
            (∀ i, w'.cell? ⟨w2.heap.size, i, none⟩ = (#[.int .i64 (ansBase S u).1, .slice A (ansBase S u).2.1.length (ansBase S u).2.1.length, .int .i64 (ansBase S u).2.2] : Array Value)[i]?))
          (first | exact ⟨fx.1, ax.1⟩ | exact ⟨fx7, ax7⟩ | exact ⟨fx8, ax8⟩ | exact ⟨fun i => fx9 _ _ _ i, fun i => ax9 _ _ _ i⟩)
          (first
            | (go_at_call 34; refine (kinds_any _).mono ?_; rintro e w7 ⟨kb, ko, km, rfl, hkb, hT, hpp, hlk, hkw, hb7⟩; obtain ⟨fv, ⟨fid, cap, rfl, hcall, hdo⟩, hlk2⟩ := kinds_look hkb hT hpp (hlk _ hk1 hk7) ⟨hk1, hk7⟩; have Hdo := Lib.hid hdo; have Hb7 : Hid (Below x.heap.size x w7) := Lib.hid ⟨hb7.os, hb7.tape, hb7.output, hb7.size, hb7.block⟩; have hx7 : x.drew.heap.size ≤ w7.heap.size := hb7.size; have fx7 := fun i => (hb7.cell (p := ⟨wc.heap.size, i, none⟩) hxs).trans (fx.1 i); have ax7 := fun i => (hb7.cell (p := ⟨w2.heap.size, i, none⟩) ax.2.2).trans (ax.1 i); clear hkb hT hpp hlk hdo hb7 hkw)
            | (refine (Hdo.out _ (Cells.refl _) f.u f.att f.kind f.n (some ⟨g, 0, none⟩) f.data f.data.length there (ansBase S u).1 A (ansBase S u).2.1 (ansBase S u).2.2 ((Hgx.out.below (w' := w7) Hb7.out).bs hdl) hdl hn0 hn1 (Hfrx.out.below (w' := w7) Hb7.out)).mono ?_; rintro e w8 ⟨A', he8, hown8, hnew8, F8⟩; unfold aV at he8; subst he8; have rx8 := fun i => ((World.cell?_of_block (F8.block (Addr.block ⟨w.heap.size, i, none⟩) (Nat.lt_of_lt_of_le rx.2.2 hx7) (fun hh => Nat.lt_asymm Hw2.out (HnA.out _ hh).1))).trans (Hb7.out.cell (p := ⟨w.heap.size, i, none⟩) rx.2.2)).trans (rx.1 i); have rf8 := fun i => ((World.frozen?_of_block (F8.block (Addr.block ⟨w.heap.size, i, none⟩) (Nat.lt_of_lt_of_le rx.2.2 hx7) (fun hh => Nat.lt_asymm Hw2.out (HnA.out _ hh).1))).trans (Hb7.out.frozen (p := ⟨w.heap.size, i, none⟩) rx.2.2)).trans (rx.2.1 i); have Hown8 := Lib.hid hown8; have Hnew8 := Lib.hid hnew8; have HF8 := Lib.hid F8; have fx8 := fun i => (World.cell?_of_block (F8.block (Addr.block ⟨wc.heap.size, i, none⟩) (Nat.lt_of_lt_of_le hxs hx7) (fun hh => Nat.lt_irrefl _ (HnA.out _ hh).2))).trans (fx7 i); have ax8 := fun i => (World.cell?_of_block (F8.block (Addr.block ⟨w2.heap.size, i, none⟩) (Nat.lt_of_lt_of_le ax.2.2 hx7) (fun hh => Nat.lt_irrefl _ (HnA.out _ hh).1))).trans (ax7 i); have fx9 := fun v0 v1 v2 i => three_far w8 w.heap.size wc.heap.size i v0 v1 v2 (Nat.ne_of_lt (Nat.lt_trans Hw2.out hlt5)) (fx8 i); have ax9 := fun v0 v1 v2 i => three_far w8 w.heap.size w2.heap.size i v0 v1 v2 (Nat.ne_of_lt Hw2.out) (ax8 i); clear hown8 hnew8 F8))
        clear fx7 ax7 fx8 ax8 fx9 ax9 rx8 rf8 fx ax rx
        go_wp2_with fail
        refine leaves_cons (f := 33) (args := #[.pointer (some ⟨nb, 0, none⟩)]) (by simp) (by simp [go_sem]) ?_
        have hF8 : Fr [nb, ab] w w8 := ((HFw.out.trans (Fr.of_below Hbx.out _)).trans (Fr.of_below Hb7.out _)).append_new HF8.out (fun j hj => by have := HnA.out j hj; have := Hw2.out; omega)
        have hr8 : w8.heap[w.heap.size]? = some (.cells #[.int .i64 0, .slice none 0 0, .int .i64 0] 35 (0, 0)) := by
          have h1 := (Hbx.out.block _ (Nat.lt_trans Hw2.out hlt5)).trans HR5.out
          have h2 := (Hb7.out.block _ (lt_of_heap h1)).trans h1
          exact (HF8.out.block _ (lt_of_heap h2) (fun hh => Nat.lt_asymm Hw2.out (HnA.out _ hh).1)).trans h2
        have hbb : Below w2.heap.size w2 w8 := by
          have e1 := Hb7.out.size
          have e2 := Hbx.out.size
          exact Hb5.out.trans ((Hbx.out.mono (by omega)).trans ((Hb7.out.mono (by omega)).trans (HF8.out.below (by omega) (fun j hj => by have := HnA.out j hj; omega))))
        have h8 : NetAt w8 nb pb fb ab 1 (S.ask u) := H2.out.below hbb
        have hxx := h8.fr (three_fr w8 w.heap.size (.int .i64 (kindDo f.kind f.n f.data there (ansBase S u).1 (ansBase S u).2.1 (ansBase S u).2.2).1) (.slice A' (kindDo f.kind f.n f.data there (ansBase S u).1 (ansBase S u).2.1 (ansBase S u).2.2).2.1.length (kindDo f.kind f.n f.data there (ansBase S u).1 (ansBase S u).2.1 (ansBase S u).2.2).2.1.length) (.int .i64 (kindDo f.kind f.n f.data there (ansBase S u).1 (ansBase S u).2.1 (ansBase S u).2.2).2.2))
          (by intro j hj; simp at hj; subst hj; exact Hrn.out) (by intro j hj l hl; simp at hj; subst hj; unfold Row8 at hl; rw [hr8] at hl; simp at hl)
        refine (unlock_at .returning _ hxx).mono ?_
        rintro e u' w6 ⟨rfl, rfl, h6, F6⟩
        refine ⟨aV (kindDo f.kind f.n f.data there (ansBase S u).1 (ansBase S u).2.1 (ansBase S u).2.2).1 A' (kindDo f.kind f.n f.data there (ansBase S u).1 (ansBase S u).2.1 (ansBase S u).2.2).2.1.length (kindDo f.kind f.n f.data there (ansBase S u).1 (ansBase S u).2.1 (ansBase S u).2.2).2.2, ?_, ?_⟩
        · have h3 := three_at hr8 (.int .i64 (kindDo f.kind f.n f.data there (ansBase S u).1 (ansBase S u).2.1 (ansBase S u).2.2).1) (.slice A' (kindDo f.kind f.n f.data there (ansBase S u).1 (ansBase S u).2.1 (ansBase S u).2.2).2.1.length (kindDo f.kind f.n f.data there (ansBase S u).1 (ansBase S u).2.1 (ansBase S u).2.2).2.1.length) (.int .i64 (kindDo f.kind f.n f.data there (ansBase S u).1 (ansBase S u).2.1 (ansBase S u).2.2).2.2)
          have r6 := blk_cells ((F6.block _ (lt_of_heap h3) (by simp; omega)).trans h3)
          simp [aV, results, Try.results10, go_sem, r6]
        · have hn8 : ∀ a, A' = some a → w.heap.size < a.block := by
            intro a ha
            rcases Hnew8.out a ha with h | h
            · have e1 := Hb7.out.size
              have e2 := Hbx.out.size
              have := Hw2.out
              omega
            · have := Hnew.out a h
              have := Hw2.out
              omega
          have hans : ansOf S u = kindDo f.kind f.n f.data there (ansBase S u).1 (ansBase S u).2.1 (ansBase S u).2.2 := by
            unfold ansOf
            rw [show ((nth S u + 1 : Nat) : Int) = (k : Int) by rw [Hk.out], show look S.faults (u, (k : Int)) = some f from Hf.out, Hth.out]
          refine get_end (st := (kindDo f.kind f.n f.data there (ansBase S u).1 (ansBase S u).2.1 (ansBase S u).2.2).1) H.out (hF8.fresh (g := w.heap.size) (Nat.le_refl _) ((three_fr w8 _ _ _ _).more (by simp))) ?_ (fun a ha => Nat.le_of_lt (hn8 a ha)) h6 F6 hans
          rcases Hown8.out with h0 | ⟨g8, hA8, hg8⟩
          · exact .inl h0
          · refine .inr ⟨g8, hA8, ((three_fr w8 w.heap.size _ _ _).block g8 (lt_of_heap hg8) ?_).trans hg8⟩
            have := hn8 _ hA8
            simp at this ⊢
            omega
end Go.Proofs.Ytpblaclhfcomeaa
