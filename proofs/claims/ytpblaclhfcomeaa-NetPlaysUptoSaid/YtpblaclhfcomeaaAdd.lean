/-
  Add: a fault is laid, or refused.
-/
import Derived.Test.YtpblaclhfcomeaaGet
namespace Go.Proofs.Ytpblaclhfcomeaa
open Go.RowKit Go.Maps Go.MuLone

attribute [local go_sem] lt1 lt2 lt3 lt4 lt5 lt6

theorem looked_form {w : World} {m : List ((ByteArray × Int) × PFault)} {p : ByteArray × Int} {v : Value} {ok : Bool} (h : Looked (RFault w) noFault m p v ok) :
    ∃ u a k n A l c, v = fV u a k n A l c := by
  rcases h with ⟨_, rfl, _⟩ | ⟨f, _, ⟨_, _, _, _, _, g, rfl, _⟩, _⟩
  · exact ⟨_, _, _, _, _, _, _, rfl⟩
  · exact ⟨_, _, _, _, _, _, _, rfl⟩

theorem Bs.net {w w' : World} {nb pb fb ab : Nat} {s : Int} {S : NetSt} {A : Option Addr} {cap : Nat} {l : List UInt8} (h : Bs w A cap l) (hn : NetAt w nb pb fb ab s S) (F : Fr [nb] w w') : Bs w' A cap l :=
  ⟨h.len, h.nil, h.le, h.big, fun hp => by
    obtain ⟨b, o, rfl, hx⟩ := h.cells hp
    refine ⟨b, o, rfl, fun j hj => ?_⟩
    have hc := (hx j hj).trans (u8s_at (by omega))
    have hne : b ≠ nb := by
      rintro rfl
      rw [(blk_cells hn.blk).1] at hc
      have h5 : o + j < 5 := by
        have := (Array.getElem?_eq_some_iff.1 hc).1
        simpa using this
      have : o + j = 0 ∨ o + j = 1 ∨ o + j = 2 ∨ o + j = 3 ∨ o + j = 4 := by omega
      rcases this with e | e | e | e | e <;> rw [e] at hc <;> simp at hc
    exact (World.cell?_of_block (a := ⟨b, o + j, none⟩) (F.block b (World.block_lt_of_cell? w _ hc) (by simpa using hne))).trans (hx j hj)⟩

def AddNo (w : World) (nb pb fb ab : Nat) (S : NetSt) (code : Int) (e : Ending) (w' : World) : Prop :=
  e = .returned (.int .i64 code) ∧ NetAt w' nb pb fb ab 0 S ∧ Fr [] w w'

/-- why a fault is refused -/
def AddWhy (S : NetSt) (u : ByteArray) (att kind n : Int) (code : Int) : Prop :=
  (fitsB u = false ∧ code = 13) ∨ (fitsB u = true ∧ kind < 1 ∧ code = 7) ∨ (fitsB u = true ∧ 1 ≤ kind ∧ 7 < kind ∧ code = 7) ∨ (fitsB u = true ∧ 1 ≤ kind ∧ kind ≤ 7 ∧ att < 1 ∧ code = 6) ∨
  (fitsB u = true ∧ 1 ≤ kind ∧ kind ≤ 7 ∧ 1 ≤ att ∧ n < 0 ∧ code = 6) ∨ (fitsB u = true ∧ 1 ≤ kind ∧ kind ≤ 7 ∧ 1 ≤ att ∧ 0 ≤ n ∧ look S.faults (u, att) ≠ none ∧ code = 3)

set_option maxHeartbeats 4000000 in
set_option maxRecDepth 100000 in
theorem add_no (w : World) (nb pb fb ab : Nat) (S : NetSt) (u : ByteArray) (att kind n : Int) (A : Option Addr) (len cap : Nat) (code : Int) (h : NetAt w nb pb fb ab 0 S) (hu : u.size ≤ maxLen) (ha : -9223372036854775808 ≤ att ∧ att ≤ 9223372036854775807) (hwhy : AddWhy S u att kind n code) :
    Calls Try.prog 24 #[.pointer (some ⟨nb, 0, none⟩), fV u att kind n A len cap] w (AddNo w nb pb fb ab S code) := by
  have H := Lib.hid h
  have hnlt := h.lt nb (by simp)
  have hu63 : u.size ≤ 9223372036854775807 := by unfold maxLen at hu; exact hu
  unfold fV
  have hb1 : ∀ o : Obj, Below w.heap.size w (w.alloc o) := fun o => (Below.refl _ _).alloc (Nat.le_refl _) _
  have Hb1 := Lib.hid hb1
  clear h hb1
  have Hwhy := Lib.hid hwhy
  clear hwhy
  go_enter_defers Try.func24, Try.ntmps24
  go_wp2_with fail
  refine (lock_at _ (H.out.below (Hb1.out _))).mono ?_
  rintro e w1 ⟨rfl, h1, F1⟩
  have c1 := blk_cells h1.blk
  have hf1 := (F1.block w.heap.size (by simp) (by simp; omega)).trans (heap_alloc_new w _)
  have f1 := blk_cells hf1
  have Hf1 := Lib.hid hf1
  clear hf1
  obtain ⟨fv, isf, hL, hfl⟩ := h1.fault_look (k := att) hu ha
  obtain ⟨u2, a2, k2, n2, A2, l2, cp2, rfl⟩ := looked_form hL
  have hlt := h1.lt
  have lf1 := fun o => hfl (w1.alloc o).drew (Below.heap_alloc _ _ _ (hlt fb (by simp)))
  have lf2 := fun o o2 => hfl ((w1.alloc o).alloc o2).drew ((Below.heap_alloc _ _ _ (by have := hlt fb (by simp); simp; omega)).trans (Below.heap_alloc _ _ _ (hlt fb (by simp))))
  have ca1 : ∀ (o : Obj) (i : Nat), (w1.alloc o).drew.cell? ⟨nb, i, none⟩ = (#[.int .i32 1, .int .u32 0, .map (some pb), .map (some fb), .map (some ab)] : Array Value)[i]? := fun o i => (World.cell?_alloc_lt w1 o ⟨nb, i, none⟩ c1.2.2).trans (c1.1 i)
  have ca2 : ∀ (o o2 : Obj) (i : Nat), ((w1.alloc o).alloc o2).drew.cell? ⟨nb, i, none⟩ = (#[.int .i32 1, .int .u32 0, .map (some pb), .map (some fb), .map (some ab)] : Array Value)[i]? := fun o o2 i => (World.cell?_alloc_lt (w1.alloc o) o2 ⟨nb, i, none⟩ (by have := c1.2.2; simp; omega)).trans (ca1 o i)
  have k1 : ∀ (i : Nat) (c : Array Value) (t : TypeId), (w1.alloc (.cells c t)).drew.cell? ⟨w1.heap.size, i, none⟩ = c[i]? := fun i c t => World.cell?_alloc_new w1 c t i
  have k2' : ∀ (i : Nat) (c : Array Value) (t : TypeId) (o2 : Obj), ((w1.alloc (.cells c t)).alloc o2).drew.cell? ⟨w1.heap.size, i, none⟩ = c[i]? := fun i c t o2 => (World.cell?_alloc_lt (w1.alloc (.cells c t)) o2 ⟨w1.heap.size, i, none⟩ (by simp)).trans (k1 i c t)
  have H1 := Lib.hid h1
  have HF1 := Lib.hid F1
  have HL := Lib.hid hL
  clear h1 F1 hL hfl hlt
  unfold fV at lf1 lf2
  go_wp2_with fail
  go_region_held3 (fun w' => w'.cell? ⟨nb, 3, none⟩ = some (.map (some fb)) ∧ (∀ i, w'.cell? ⟨w1.heap.size, i, none⟩ = (#[.string u, .int .i64 att] : Array Value)[i]?) ∧
      (Instr.lookup 71 (.map (some fb)) (.agg #[.string u, .int .i64 att]) true).run Try.prog w' = .ok (.tuple #[.agg #[.string u2, .int .i64 a2, .int .i64 k2, .int .i64 n2, .slice A2 l2 cp2], .bool isf]) w')
    (first | exact ⟨ca1 _ 3, fun i => k1 i _ _, lf1 _⟩ | exact ⟨ca2 _ _ 3, fun i => k2' i _ _ _, lf2 _ _⟩)
    (first | fail)
  all_goals
    clear ca1 ca2 k1 k2' lf1 lf2
    rcases Hwhy.out with ⟨hw1, rfl⟩ | ⟨hw1, hw2, rfl⟩ | ⟨hw1, hw2, hw3, rfl⟩ | ⟨hw1, hw2, hw3, hw4, rfl⟩ | ⟨hw1, hw2, hw3, hw4, hw5, rfl⟩ | ⟨hw1, hw2, hw3, hw4, hw5, hw6, rfl⟩
  all_goals
    try (obtain rfl : isf = true := (by rcases HL.out with ⟨hn, _⟩ | ⟨_, _, _, hh⟩; exact absurd hn hw6; exact hh); clear hw6)
    go_wp2_with (first | (go_at_call 30; refine (fits_any _ _ hu63).mono ?_; rintro e w' ⟨rfl, rfl⟩))
    refine leaves_cons (f := 33) (args := #[.pointer (some ⟨nb, 0, none⟩)]) (by simp) (by simp [go_sem]) ?_
    have hbX := fun o1 o2 => (((Below.refl w1.heap.size w1).alloc (Nat.le_refl _) o1).alloc (by simp) o2).drew
    refine (unlock_at .returning _ (H1.out.below (hbX _ _))).mono ?_
    rintro e u' w6 ⟨rfl, rfl, h6, F6⟩
    exact ⟨_, results_tmp rfl _ _ _, rfl, h6, Fr.drop (n := nb) ((((Fr.alloc [nb] w _).trans HF1.out).trans (Fr.of_below (hbX _ _) _)).trans F6) (h6.blk.trans H.out.blk.symm)⟩
end Go.Proofs.Ytpblaclhfcomeaa
