/-
  The package's archive of no files. (Printed by wip/abexp.py.)
-/
import Derived.Test.YtdmladdpbdcpjaaDoorArkW
import Derived.Test.YtdmladdpbdcpjaaDoorArkRise
import Derived.Test.YtdmladdpbdcpjaaDoorArkNamed
namespace Go.Proofs.YtdmladdpbdcpjaaDoor
open Go.RowKit

set_option linter.unusedSimpArgs false

attribute [local go_sem] lt1 lt2 lt3 lt4 lt5 lt6

theorem Wx.cells {w : World} {base gw gv g2 g4 : Nat} {B : List UInt8} (h : Wx w base gw gv g2 g4 B) : ∃ Ab cb, w.cell? ⟨gw, 0, none⟩ = some (.slice Ab B.length cb) ∧ w.cell? ⟨gw, 1, none⟩ = some (FW g2 gv) ∧ w.cell? ⟨gw, 2, none⟩ = some (FW g4 gv) := by
  obtain ⟨b, h⟩ := h
  obtain ⟨Ab, cb, rfl, _, _, _, _⟩ := own_form h.row
  exact ⟨Ab, cb, (blk_cells h.blk).1 0, (blk_cells h.blk).1 1, (blk_cells h.blk).1 2⟩
def StPost (w : World) (base gw gv g2 g4 : Nat) (B : List UInt8) (e : Ending) (w' : World) : Prop := e = .returned (.tuple #[]) ∧ Wx w' base gw gv g2 g4 B ∧ FrW base w w'
theorem put_row {w : World} {base gw gv g2 g4 : Nat} {B : List UInt8} (h : Wx w base gw gv g2 g4 B) (hbase : base ≤ w.heap.size) (gk k : Nat) (hgk : w.heap[gk]? = some (.cells #[.int .i64 (k : Nat)] 3 (0, 0))) (hk8 : k ≤ 8)
    (l : List Nat) (hn : ∀ n ∈ l, n < 4611686018427387904) (hs : B.length ≤ 4294967296) (hll : l.length ≤ 1048576) (cs : Array Value) (hc : cs = (ints l).toArray) (m c : Nat) (hm : m = l.length) :
    Calls Tryd.prog 94 #[.slice (some ⟨w.heap.size, 0, none⟩) m c, .pointer (some ⟨gk, 0, none⟩), .pointer (some ⟨gv, 0, none⟩)] (w.alloc (.cells cs 3)) (StPost w base gw gv g2 g4 (B ++ lesB k l)) := by
  subst hc hm
  have hb : Below w.heap.size w (w.alloc (.cells (ints l).toArray 3)) := (Below.refl _ _).alloc (Nat.le_refl _) _
  refine (put_any _ base gw gv g2 g4 B (h.below hb) gk k ((hb.block _ (lt_of_heap hgk)).trans hgk) hk8 w.heap.size c l (heap_alloc_new w _) hn hs hll (by simp; omega)).mono ?_
  rintro e w' ⟨h1, h2, h3⟩
  exact ⟨h1, h2, (FrW.of_below hb).trans h3⟩
theorem put2 {w : World} {base gw gv g2 g4 : Nat} {B : List UInt8} (h : Wx w base gw gv g2 g4 B) (hbase : base ≤ w.heap.size)
    (l : List Nat) (hn : ∀ n ∈ l, n < 4611686018427387904) (hs : B.length ≤ 4294967296) (hll : l.length ≤ 1048576) (cs : Array Value) (hc : cs = (ints l).toArray) (m c : Nat) (hm : m = l.length) :
    Calls Tryd.prog 94 #[.slice (some ⟨w.heap.size, 0, none⟩) m c, .pointer (some ⟨g2, 0, none⟩), .pointer (some ⟨gv, 0, none⟩)] (w.alloc (.cells cs 3)) (StPost w base gw gv g2 g4 (B ++ lesB 2 l)) :=
  put_row h hbase g2 2 (h.elim fun _ h => h.two) (by omega) l hn hs hll cs hc m c hm
theorem put4 {w : World} {base gw gv g2 g4 : Nat} {B : List UInt8} (h : Wx w base gw gv g2 g4 B) (hbase : base ≤ w.heap.size)
    (l : List Nat) (hn : ∀ n ∈ l, n < 4611686018427387904) (hs : B.length ≤ 4294967296) (hll : l.length ≤ 1048576) (cs : Array Value) (hc : cs = (ints l).toArray) (m c : Nat) (hm : m = l.length) :
    Calls Tryd.prog 94 #[.slice (some ⟨w.heap.size, 0, none⟩) m c, .pointer (some ⟨g4, 0, none⟩), .pointer (some ⟨gv, 0, none⟩)] (w.alloc (.cells cs 3)) (StPost w base gw gv g2 g4 (B ++ lesB 4 l)) :=
  put_row h hbase g4 4 (h.elim fun _ h => h.four) (by omega) l hn hs hll cs hc m c hm
def PkIn (w : World) (base gw gv g2 g4 : Nat) (wr : World) : Prop := Wx wr base gw gv g2 g4 [] ∧ Below base w wr
set_option maxHeartbeats 4000000 in
set_option maxRecDepth 100000 in
theorem pack_nil (w : World) (Az : Option Addr) (cz : Nat) : Calls Tryd.prog 47 #[.slice Az 0 cz] w fun e w' => (∃ A c, e = .returned (.slice A 22 c)) ∧ Below w.heap.size w w' := by
  go_enter Tryd.func47, Tryd.ntmps47
  go_wp2_with fail
  refine (writer_any _).mono ?_
  rintro e w1 ⟨gw, gv, g2, g4, rfl, hw, hb⟩
  have Hw : Hid (Wx w1 w.heap.size gw gv g2 g4 []) := Lib.hid ⟨_, hw⟩
  have Hb := Lib.hid hb
  clear hb hw
  generalize hbase : w.heap.size = base at *
  go_wp2_with fail
  go_loopw [14] (fun iv wr => iv = .int .i64 0 ∧ PkIn w base gw gv g2 g4 wr) (fun _ _ => 0)
  case atStart => exact ⟨rfl, Hw.out, Hb.out⟩
  clear Hw Hb
  obtain ⟨rfl, hr1, hr2⟩ := hrel
  have Hw := Lib.hid hr1
  have Hb := Lib.hid hr2
  obtain ⟨Ab, cb, c1, c2, c3⟩ := hr1.cells
  clear hr1 hr2 c2 c3
  go_wp2_with fail
  clear c1
  go_loopw [81] (fun iv wr => iv = .int .i64 0 ∧ PkIn w base gw gv g2 g4 wr) (fun _ _ => 0)
  case atStart => exact ⟨rfl, Hw.out, Hb.out⟩
  clear Hw Hb
  obtain ⟨rfl, hr1, hr2⟩ := hrel
  have Hw := Lib.hid hr1
  have Hb := Lib.hid hr2
  obtain ⟨Ab, cb, c1, c2, c3⟩ := hr1.cells
  clear hr1 hr2 c2 c3
  go_wp2_with fail
  clear c1
  refine (mark_any _ _ _ _ _ _ _ Hw.out ⟨#[80, 75, 5, 6]⟩ (by decide) (by have := Hb.out.size; omega)).mono ?_
  rintro e w2 ⟨rfl, h1, h2⟩
  have Hw2 := Lib.hid h1
  have Hb2 := Lib.hid (Hb.out.trans (h2.below (by have := Hb.out.size; omega)))
  obtain ⟨Ab, cb, c1, c2, c3⟩ := h1.cells
  unfold FW at c2 c3
  clear Hw Hb h1 h2 c1 c3
  go_wp2_with fail
  refine (put2 Hw2.out (by have := Hb2.out.size; omega) [0, 0, 0, 0] (by decide) (by decide) (by decide) _ rfl _ _ rfl).mono ?_
  rintro e w3 ⟨rfl, h1, h2⟩
  have Hw3 := Lib.hid h1
  have Hb3 := Lib.hid (Hb2.out.trans (h2.below (by have := Hb2.out.size; omega)))
  obtain ⟨Ab, cb, c1, c2, c3⟩ := h1.cells
  unfold FW at c2 c3
  clear Hw2 Hb2 h1 h2 c1 c2
  go_wp2_with fail
  refine (put4 Hw3.out (by have := Hb3.out.size; omega) [0, 0] (by decide) (by decide) (by decide) _ rfl _ _ rfl).mono ?_
  rintro e w4 ⟨rfl, h1, h2⟩
  have Hw4 := Lib.hid h1
  have Hb4 := Lib.hid (Hb3.out.trans (h2.below (by have := Hb3.out.size; omega)))
  obtain ⟨Ab, cb, c1, c2, c3⟩ := h1.cells
  unfold FW at c2 c3
  clear Hw3 Hb3 h1 h2 c1 c3
  go_wp2_with fail
  refine (put2 Hw4.out (by have := Hb4.out.size; omega) [0] (by decide) (by decide) (by decide) _ rfl _ _ rfl).mono ?_
  rintro e w5 ⟨rfl, h1, h2⟩
  have Hb5 := Lib.hid (Hb4.out.trans (h2.below (by have := Hb4.out.size; omega)))
  obtain ⟨Ab, cb, c1, c2, c3⟩ := h1.cells
  clear Hw4 Hb4 h1 h2 c2 c3
  go_wp2_with fail
  go_ret
  exact ⟨⟨_, _, rfl⟩, by rw [hbase]; exact Hb5.out⟩
theorem packed_nil (w : World) (hm : MaxL w) : Calls Tryd.prog 13 #[.slice none 0 0] w fun e w' => (∃ A c, e = .returned (.tuple #[.slice A 22 c, .int .i64 0])) ∧ Below w.heap.size w w' := by
  have h0 : FlAt w none 0 [] := ⟨fun _ => ⟨rfl, rfl⟩, by simp, by decide, fun h => absurd h (by simp)⟩
  go_enter Tryd.func13, Tryd.ntmps13
  go_wp2_with fail
  refine (names_any w none 0 [] h0 (by simp) (by simp) hm).mono ?_
  rintro e w1 ⟨he, hb⟩
  have he' : e = .returned (.int .i64 0) := he
  subst he'
  have Hb := Lib.hid hb
  clear hb he
  go_wp2_with fail
  go_loop [5, 19] (fun tv iv => tv = .int .i64 0 ∧ iv = .int .i64 0) (fun _ _ => 0)
  case atStart => exact ⟨rfl, rfl⟩
  case round =>
    obtain ⟨rfl, rfl⟩ := hrel
    go_wp2_with fail
    refine (rising_small w1 none 0 [] (h0.below Hb.out) (by simp)).mono ?_
    rintro e w2 ⟨v, rfl, hv, hb⟩
    obtain ⟨Az, cz, rfl, -⟩ := hv.files
    have Hb2 := Lib.hid (Hb.out.trans (hb.mono Hb.out.size))
    clear hb hv
    go_wp2_with fail
    refine (pack_nil w2 Az cz).mono ?_
    rintro e w3 ⟨⟨A, c, rfl⟩, hb⟩
    have Hb3 := Lib.hid (Hb2.out.trans (hb.mono Hb2.out.size))
    clear hb
    go_wp2_with fail
    go_ret2
    exact ⟨⟨_, _, rfl⟩, Hb3.out⟩
end Go.Proofs.YtdmladdpbdcpjaaDoor
