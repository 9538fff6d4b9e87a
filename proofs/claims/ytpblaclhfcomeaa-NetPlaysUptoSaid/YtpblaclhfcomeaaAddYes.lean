/-
  Add: a fault is laid.
-/
import Derived.Test.YtpblaclhfcomeaaAdd
namespace Go.Proofs.Ytpblaclhfcomeaa
open Go.RowKit Go.Maps Go.MuLone

attribute [local go_sem] lt1 lt2 lt3 lt4 lt5 lt6

/-- a fault is laid -/
def NetSt.add (S : NetSt) (f : PFault) : NetSt := { S with faults := put S.faults (f.u, f.att) f }
def AddYes (w : World) (nb pb fb ab : Nat) (S : NetSt) (u : ByteArray) (att kind n : Int) (d : List UInt8) (e : Ending) (w' : World) : Prop :=
  e = .returned (.int .i64 0) ∧ NetAt w' nb pb fb ab 0 (S.add ⟨u, att, kind, n, d⟩) ∧ Fr [fb] w w'

theorem NetAt.add_put {w : World} {nb pb fb ab : Nat} {s : Int} {S : NetSt} (h : NetAt w nb pb fb ab s S) (f : PFault) (hu : f.u.size ≤ maxLen) (ha : -9223372036854775808 ≤ f.att ∧ f.att ≤ 9223372036854775807) (v : Value) (hv : RFault w v f) :
    ∃ w', (Instr.mapUpdate 71 (.map (some fb)) (.agg #[.string f.u, .int .i64 f.att]) v).run Try.prog w = .ok () w' ∧ NetAt w' nb pb fb ab s (S.add f) ∧ Fr [fb] w w' := by
  obtain ⟨o2, h2, T⟩ := h.faults
  obtain ⟨l, hl⟩ := req_key (p := (f.u, f.att)) hu ha
  obtain ⟨o', hrun, hT⟩ := T.update req_law Try.underlying71 reqKey_inj hl v
  have hf : Fr [fb] w (ChangeMaps.setBlock w fb o') := Fr.setBlock _ _ _ _ (by simp)
  refine ⟨_, hrun w fb h2, ?_, hf⟩
  have hr : Rows8 w (ChangeMaps.setBlock w fb o') := Rows8.of_fr hf (fun k hk => h.not_row k (by simp at hk; simp [hk]))
  obtain ⟨n1, n2, n3⟩ := h.ne_nb
  obtain ⟨o1, h1, t1⟩ := h.pages
  obtain ⟨o3, h3, t3⟩ := h.asked
  exact ⟨(hf.block _ (lt_of_heap h.blk) (by simpa using n2)).trans h.blk, ⟨o1, (hf.block _ (lt_of_heap h1) (by simpa using h.d1)).trans h1, t1.mono fun _ _ hh => hh.keep hr⟩,
    ⟨o', setBlock_same (lt_of_heap h2), hT (RFault _) f (fun _ _ hh => hh.keep hr) (hv.keep hr)⟩, ⟨o3, (hf.block _ (lt_of_heap h3) (by simpa using h.d3.symm)).trans h3, t3⟩, h.d1, h.d2, h.d3⟩

set_option maxHeartbeats 4000000 in
set_option maxRecDepth 100000 in
theorem add_yes (w : World) (nb pb fb ab : Nat) (S : NetSt) (u : ByteArray) (att kind n : Int) (A : Option Addr) (d : List UInt8) (cap : Nat) (h : NetAt w nb pb fb ab 0 S) (hu : u.size ≤ maxLen) (ha : -9223372036854775808 ≤ att ∧ att ≤ 9223372036854775807) (hw1 : fitsB u = true) (hw2 : 1 ≤ kind) (hw3 : kind ≤ 7) (hw4 : 1 ≤ att) (hw5 : 0 ≤ n) (hw7 : n ≤ 9223372036854775807) (hw6 : look S.faults (u, att) = none) (hd : Bs w A cap d) (hdl : d.length ≤ 140737488351232) :
    Calls Try.prog 24 #[.pointer (some ⟨nb, 0, none⟩), fV u att kind n A d.length cap] w (AddYes w nb pb fb ab S u att kind n d) := by
  have H := Lib.hid h
  have hnlt := h.lt nb (by simp)
  have hu63 : u.size ≤ 9223372036854775807 := by unfold maxLen at hu; exact hu
  unfold fV
  have hb1 : ∀ o : Obj, Below w.heap.size w (w.alloc o) := fun o => (Below.refl _ _).alloc (Nat.le_refl _) _
  have Hb1 := Lib.hid hb1
  clear h hb1
  have Hd := Lib.hid hd
  have Hw6 := Lib.hid hw6
  clear hd hw6
  go_enter_defers Try.func24, Try.ntmps24
  go_wp2_with fail
  refine (lock_at _ (H.out.below (Hb1.out _))).mono ?_
  rintro e w1 ⟨rfl, h1, F1⟩
  have c1 := blk_cells h1.blk
  have hf1 := (F1.block w.heap.size (by simp) (by simp; omega)).trans (heap_alloc_new w _)
  have f1 := blk_cells hf1
  have Hf1 := Lib.hid hf1
  clear hf1
  obtain ⟨fv, isf, hL, hfl⟩ := h1.fault_look (k := att) hu ha
  obtain rfl : isf = false := by
    rcases hL with ⟨_, _, hh⟩ | ⟨y, hy, _⟩
    · exact hh
    · rw [Hw6.out] at hy; cases hy
  obtain ⟨u2, a2, k2, n2, A2, l2, cp2, rfl⟩ := looked_form hL
  have hlt := h1.lt
  have lf1 := fun o => hfl (w1.alloc o).drew (Below.heap_alloc _ _ _ (hlt fb (by simp)))
  have lf2 := fun o o2 => hfl ((w1.alloc o).alloc o2).drew ((Below.heap_alloc _ _ _ (by have := hlt fb (by simp); simp; omega)).trans (Below.heap_alloc _ _ _ (hlt fb (by simp))))
  have ca1 : ∀ (o : Obj) (i : Nat), (w1.alloc o).drew.cell? ⟨nb, i, none⟩ = (#[.int .i32 1, .int .u32 0, .map (some pb), .map (some fb), .map (some ab)] : Array Value)[i]? := fun o i => (World.cell?_alloc_lt w1 o ⟨nb, i, none⟩ c1.2.2).trans (c1.1 i)
  have ca2 : ∀ (o o2 : Obj) (i : Nat), ((w1.alloc o).alloc o2).drew.cell? ⟨nb, i, none⟩ = (#[.int .i32 1, .int .u32 0, .map (some pb), .map (some fb), .map (some ab)] : Array Value)[i]? := fun o o2 i => (World.cell?_alloc_lt (w1.alloc o) o2 ⟨nb, i, none⟩ (by have := c1.2.2; simp; omega)).trans (ca1 o i)
  have k1 : ∀ (i : Nat) (c : Array Value) (t : TypeId), (w1.alloc (.cells c t)).drew.cell? ⟨w1.heap.size, i, none⟩ = c[i]? := fun i c t => World.cell?_alloc_new w1 c t i
  have k2' : ∀ (i : Nat) (c : Array Value) (t : TypeId) (o2 : Obj), ((w1.alloc (.cells c t)).alloc o2).drew.cell? ⟨w1.heap.size, i, none⟩ = c[i]? := fun i c t o2 => (World.cell?_alloc_lt (w1.alloc (.cells c t)) o2 ⟨w1.heap.size, i, none⟩ (by simp)).trans (k1 i c t)
  have H1 := Lib.hid h1
  have HF1 := Lib.hid F1
  have HL := Lib.hid hL
  clear h1 F1 hL hfl hlt
  unfold fV at lf1 lf2
  go_wp2_with fail
  go_region_held3 (fun w' => w'.cell? ⟨nb, 3, none⟩ = some (.map (some fb)) ∧ (∀ i, w'.cell? ⟨w1.heap.size, i, none⟩ = (#[.string u, .int .i64 att] : Array Value)[i]?) ∧
      (Instr.lookup 71 (.map (some fb)) (.agg #[.string u, .int .i64 att]) true).run Try.prog w' = .ok (.tuple #[.agg #[.string u2, .int .i64 a2, .int .i64 k2, .int .i64 n2, .slice A2 l2 cp2], .bool false]) w')
    (first | exact ⟨ca1 _ 3, fun i => k1 i _ _, lf1 _⟩ | exact ⟨ca2 _ _ 3, fun i => k2' i _ _ _, lf2 _ _⟩)
    (first | fail)
  all_goals
    clear ca1 ca2 k1 k2' lf1 lf2
    go_wp2_with (first | (go_at_call 30; refine (fits_any _ _ hu63).mono ?_; rintro e w' ⟨rfl, rfl⟩))
    have hbX := fun o1 o2 => (((Below.refl w1.heap.size w1).alloc (Nat.le_refl _) o1).alloc (by simp) o2).drew
    have HbX := Lib.hid hbX
    clear hbX
    refine (fresh_at d _ _ _ _ rfl hdl ?_).mono ?_
    · exact (((Hd.out.keep (Cells.alloc w _)).net (H.out.below (Hb1.out _)) HF1.out).keep (Cells.of_below (HbX.out _ _)))
    rintro e w3 ⟨g3, rfl, hh, hge, hb⟩
    simp at hge
    have hb3 : Below w1.heap.size w1 w3 := (HbX.out _ _).trans (hb.mono (by simp; try omega))
    have hk3 : w3.heap[w1.heap.size]? = some (.cells #[.string u, .int .i64 att] 86 (0, 0)) := (hb.block w1.heap.size (by simp; try omega)).trans ((Below.heap_alloc _ _ w1.heap.size (by simp)).trans (heap_alloc_new w1 _))
    have hf3 : w3.heap[w.heap.size]? = some (.cells #[.string u, .int .i64 att, .int .i64 kind, .int .i64 n, .slice A d.length cap] 38 (0, 0)) := (hb3.block _ f1.2.2).trans Hf1.out
    have f3 := blk_cells hf3
    have k3 := blk_cells hk3
    have hx4 : Fr [w.heap.size] w3 (w3.setCell ⟨w.heap.size, 4, none⟩ (.slice (some ⟨g3, 0, none⟩) d.length d.length)) := Fr.setCell _ _ _ _ (by simp)
    have hf4 := heap_setCell_at hf3 4 (.slice (some ⟨g3, 0, none⟩) d.length d.length)
    have hk4 := (hx4.block w1.heap.size k3.2.2 (by have := f1.2.2; simp; omega)).trans hk3
    have hrw : w.heap.size ∉ [nb, pb, fb, ab] := fun hh => Nat.lt_irrefl _ (H.out.lt _ hh)
    have hnr : ∀ l, ¬ Row8 w3 w.heap.size l := by intro l hl; unfold Row8 at hl; rw [hf3] at hl; simp at hl
    have h4 := (H1.out.below hb3).fr hx4 (by intro j hj; simp at hj; subst hj; exact hrw) (by intro j hj; simp at hj; subst hj; exact hnr)
    have hg4 : Row8 (w3.setCell ⟨w.heap.size, 4, none⟩ (.slice (some ⟨g3, 0, none⟩) d.length d.length)) g3 d := (hx4.block g3 (lt_of_heap hh) (by have := f1.2.2; simp; omega)).trans hh
    have Hh := Lib.hid hh
    have HX : Hid (Fr [nb] w (w3.setCell ⟨w.heap.size, 4, none⟩ (.slice (some ⟨g3, 0, none⟩) d.length d.length))) := Lib.hid (Fr.fresh (g := w.heap.size) (((Fr.alloc [nb] w _).trans HF1.out).trans (Fr.of_below hb3 _)) (Nat.le_refl _) (hx4.more (by simp)))
    have c3 := blk_cells (H1.out.below hb3).blk
    clear hh hb hx4 hnr hrw hk3 hf3
    go_wp2_with fail
    generalize w3.setCell ⟨w.heap.size, 4, none⟩ (.slice (some ⟨g3, 0, none⟩) d.length d.length) = x at *
    have h5 : NetAt x.drew nb pb fb ab 1 S := ⟨h4.blk, h4.pages, h4.faults, h4.asked, h4.d1, h4.d2, h4.d3⟩
    obtain ⟨x6, hr6, h6, F6⟩ := h5.add_put ⟨u, att, kind, n, d⟩ hu ha (fV u att kind n (some ⟨g3, 0, none⟩) d.length d.length) ⟨hdl, hw5, hw7, hw2, hw3, g3, rfl, hg4⟩
    unfold fV at hr6
    have c5 := blk_cells h4.blk
    have f5 := blk_cells hf4
    have k5 := blk_cells hk4
    have hfl := H.out.lt fb (by simp)
    have c6 := blk_cells h6.blk
    have f6 := blk_cells ((F6.block w.heap.size f5.2.2 (by simp; omega)).trans hf4)
    have k6 := blk_cells ((F6.block w1.heap.size k5.2.2 (by have := f1.2.2; simp; omega)).trans hk4)
    have H4 := Lib.hid h4
    have H6 := Lib.hid h6
    have HF6 := Lib.hid F6
    clear h4 h5 h6 F6 hf4 hk4 hg4 c3 f3 k3 c1 f1
    go_region_held3 (fun w' => w'.cell? ⟨nb, 3, none⟩ = some (.map (some fb)) ∧ (∀ i, w'.cell? ⟨w1.heap.size, i, none⟩ = (#[.string u, .int .i64 att] : Array Value)[i]?) ∧
        (∀ i, w'.cell? ⟨w.heap.size, i, none⟩ = (#[.string u, .int .i64 att, .int .i64 kind, .int .i64 n, .slice (some ⟨g3, 0, none⟩) d.length d.length] : Array Value)[i]?))
      (first | exact ⟨c5.1 3, k5.1, f5.1⟩ | exact ⟨c6.1 3, k6.1, f6.1⟩)
      (first | fail)
    clear c6 f6 k6 c5 f5 k5 hr6
    go_wp2_with fail
    refine leaves_cons (f := 33) (args := #[.pointer (some ⟨nb, 0, none⟩)]) (by simp) (by simp [go_sem]) ?_
    refine (unlock_at .returning _ H6.out).mono ?_
    rintro e u' w7 ⟨rfl, rfl, h7, F7⟩
    exact ⟨_, results_tmp rfl _ _ _, rfl, h7, Fr.drop (n := nb) (((HX.out.drewN 1).more (by simp)).trans ((HF6.out.more (by simp)).trans (F7.more (by simp)))) (h7.blk.trans H.out.blk.symm)⟩
end Go.Proofs.Ytpblaclhfcomeaa
