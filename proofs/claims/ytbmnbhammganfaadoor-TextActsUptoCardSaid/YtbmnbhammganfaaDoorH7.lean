/-
  act: the act that is meant (under way).
  act: the kinds 6 and 9, that hold bytes made of a text.
  act: the kind 8.
-/
import Derived.Test.YtbmnbhammganfaaDoorH5
import Derived.Test.YtbmnbhammganfaaDoorH6
namespace Go.Proofs.YtbmnbhammganfaaDoor
open Go.RowKit Go.Maps

set_option linter.unusedSimpArgs false

attribute [local go_sem] lt1 lt2 lt3 lt4 lt5 lt6


def ActPost (w : World) (a : ActD) (e : Ending) (w' : World) : Prop := ∃ V, e = .returned (.agg V) ∧ ActBox w' V a ∧ Below w.heap.size w w'
theorem heap_mid (w : World) (X Y Z : Obj) : (((w.alloc X).alloc Y).alloc Z).heap[w.heap.size + 1]? = some Y := (Below.heap_alloc _ _ _ (by simp)).trans (heap_alloc2_new w X Y)
theorem below_three {w : World} (x y z : Obj) : Below w.heap.size w (((w.alloc x).alloc y).alloc z) :=
  (((Below.refl w.heap.size w).alloc (Nat.le_refl _) x).alloc (((Below.refl w.heap.size w).alloc (Nat.le_refl _) x).size) y).alloc ((((Below.refl w.heap.size w).alloc (Nat.le_refl _) x).alloc (((Below.refl w.heap.size w).alloc (Nat.le_refl _) x).size) y).size) z
set_option maxRecDepth 100000 in
set_option maxHeartbeats 4000000 in
theorem act4_ref (w : World) (n m : Int) (t : Value) (b o c : Nat) (g1 : w.cell? ⟨b, o, none⟩ = some (.int .i64 n)) (g2 : w.cell? ⟨b, o + 1, none⟩ = some (.int .i64 m)) :
    Calls Tryd.prog 20 #[.agg #[.int .i64 4, .int .i64 0, t, .slice (some ⟨b, o, none⟩) 2 c]] w (ActPost w (actR ⟨4, 0, [], [n, m]⟩)) := by
  have k1 : ∀ X Y Z, (((w.alloc X).alloc Y).alloc Z).cell? ⟨b, o, none⟩ = some (.int .i64 n) := fun X Y Z => Cells.alloc _ _ _ _ (Cells.alloc _ _ _ _ (Cells.alloc _ _ _ _ g1))
  have k2 : ∀ X Y Z, (((w.alloc X).alloc Y).alloc Z).cell? ⟨b, o + 1, none⟩ = some (.int .i64 m) := fun X Y Z => Cells.alloc _ _ _ _ (Cells.alloc _ _ _ _ (Cells.alloc _ _ _ _ g2))
  clear g1 g2
  go_enter Tryd.func20, Tryd.ntmps20
  go_wp2_with fail
  refine bodyPost_ret (results_cell_row rfl _ _ (w.heap.size + 1) 28 (actV (actR ⟨4, 0, [], [n, m]⟩) nilV nilV).toArray (0, 0) _ rfl (heap_mid _ _ _ _) Tryd.underlying28 rfl sizeAct) rfl ?_
  exact ⟨_, rfl, ⟨none, 0, none, 0, rfl, Bs.none_ _, Bs.none_ _⟩, below_three _ _ _⟩
set_option maxRecDepth 100000 in
set_option maxHeartbeats 4000000 in
theorem act5_ref (w : World) (n : Int) (t : Value) (b o l c : Nat) (hl : 0 < l) (g1 : w.cell? ⟨b, o, none⟩ = some (.int .i64 n)) :
    Calls Tryd.prog 20 #[.agg #[.int .i64 5, .int .i64 0, t, .slice (some ⟨b, o, none⟩) l c]] w (ActPost w (actR ⟨5, 0, [], [n]⟩)) := by
  have hlI : (0 : Int) < l := by omega
  have k1 : ∀ X Y Z, (((w.alloc X).alloc Y).alloc Z).cell? ⟨b, o, none⟩ = some (.int .i64 n) := fun X Y Z => Cells.alloc _ _ _ _ (Cells.alloc _ _ _ _ (Cells.alloc _ _ _ _ g1))
  clear g1
  go_enter Tryd.func20, Tryd.ntmps20
  go_wp2_with fail
  refine bodyPost_ret (results_cell_row rfl _ _ (w.heap.size + 1) 28 (actV (actR ⟨5, 0, [], [n]⟩) nilV nilV).toArray (0, 0) _ rfl (heap_mid _ _ _ _) Tryd.underlying28 rfl sizeAct) rfl ?_
  exact ⟨_, rfl, ⟨none, 0, none, 0, rfl, Bs.none_ _, Bs.none_ _⟩, below_three _ _ _⟩
set_option maxRecDepth 100000 in
set_option maxHeartbeats 4000000 in
theorem act10_ref (w : World) (n : Int) (t : Value) (b o l c : Nat) (hl : 0 < l) (g1 : w.cell? ⟨b, o, none⟩ = some (.int .i64 n)) :
    Calls Tryd.prog 20 #[.agg #[.int .i64 10, .int .i64 0, t, .slice (some ⟨b, o, none⟩) l c]] w (ActPost w (actR ⟨10, 0, [], [n]⟩)) := by
  have hlI : (0 : Int) < l := by omega
  have k1 : ∀ X Y Z, (((w.alloc X).alloc Y).alloc Z).cell? ⟨b, o, none⟩ = some (.int .i64 n) := fun X Y Z => Cells.alloc _ _ _ _ (Cells.alloc _ _ _ _ (Cells.alloc _ _ _ _ g1))
  clear g1
  go_enter Tryd.func20, Tryd.ntmps20
  go_wp2_with fail
  refine bodyPost_ret (results_cell_row rfl _ _ (w.heap.size + 1) 28 (actV (actR ⟨10, 0, [], [n]⟩) nilV nilV).toArray (0, 0) _ rfl (heap_mid _ _ _ _) Tryd.underlying28 rfl sizeAct) rfl ?_
  exact ⟨_, rfl, ⟨none, 0, none, 0, rfl, Bs.none_ _, Bs.none_ _⟩, below_three _ _ _⟩
set_option maxRecDepth 100000 in
set_option maxHeartbeats 4000000 in
theorem act11_ref (w : World) (n : Int) (t : Value) (b o l c : Nat) (hl : 0 < l) (g1 : w.cell? ⟨b, o, none⟩ = some (.int .i64 n)) :
    Calls Tryd.prog 20 #[.agg #[.int .i64 11, .int .i64 0, t, .slice (some ⟨b, o, none⟩) l c]] w (ActPost w (actR ⟨11, 0, [], [n]⟩)) := by
  have hlI : (0 : Int) < l := by omega
  have k1 : ∀ X Y Z, (((w.alloc X).alloc Y).alloc Z).cell? ⟨b, o, none⟩ = some (.int .i64 n) := fun X Y Z => Cells.alloc _ _ _ _ (Cells.alloc _ _ _ _ (Cells.alloc _ _ _ _ g1))
  clear g1
  go_enter Tryd.func20, Tryd.ntmps20
  go_wp2_with fail
  refine bodyPost_ret (results_cell_row rfl _ _ (w.heap.size + 1) 28 (actV (actR ⟨11, 0, [], [n]⟩) nilV nilV).toArray (0, 0) _ rfl (heap_mid _ _ _ _) Tryd.underlying28 rfl sizeAct) rfl ?_
  exact ⟨_, rfl, ⟨none, 0, none, 0, rfl, Bs.none_ _, Bs.none_ _⟩, below_three _ _ _⟩
set_option maxRecDepth 100000 in
set_option maxHeartbeats 4000000 in
theorem act2_ref (w : World) (t u : Value)  :
    Calls Tryd.prog 20 #[.agg #[.int .i64 2, .int .i64 0, t, u]] w (ActPost w (actR ⟨2, 0, [], []⟩)) := by
  go_enter Tryd.func20, Tryd.ntmps20
  go_wp2_with fail
  refine bodyPost_ret (results_cell_row rfl _ _ (w.heap.size + 1) 28 (actV (actR ⟨2, 0, [], []⟩) nilV nilV).toArray (0, 0) _ rfl (heap_mid _ _ _ _) Tryd.underlying28 rfl sizeAct) rfl ?_
  exact ⟨_, rfl, ⟨none, 0, none, 0, rfl, Bs.none_ _, Bs.none_ _⟩, below_three _ _ _⟩
set_option maxRecDepth 100000 in
set_option maxHeartbeats 4000000 in
theorem act3_ref (w : World) (t u : Value)  :
    Calls Tryd.prog 20 #[.agg #[.int .i64 3, .int .i64 0, t, u]] w (ActPost w (actR ⟨3, 0, [], []⟩)) := by
  go_enter Tryd.func20, Tryd.ntmps20
  go_wp2_with fail
  refine bodyPost_ret (results_cell_row rfl _ _ (w.heap.size + 1) 28 (actV (actR ⟨3, 0, [], []⟩) nilV nilV).toArray (0, 0) _ rfl (heap_mid _ _ _ _) Tryd.underlying28 rfl sizeAct) rfl ?_
  exact ⟨_, rfl, ⟨none, 0, none, 0, rfl, Bs.none_ _, Bs.none_ _⟩, below_three _ _ _⟩
set_option maxRecDepth 100000 in
set_option maxHeartbeats 4000000 in
theorem act7_ref (w : World) (p : ByteArray) (t : Value) (b o l c : Nat) (hl : 0 < l) (g1 : w.cell? ⟨b, o, none⟩ = some (.string p)) :
    Calls Tryd.prog 20 #[.agg #[.int .i64 7, .int .i64 0, .slice (some ⟨b, o, none⟩) l c, t]] w (ActPost w (actR ⟨7, 0, [toL p], []⟩)) := by
  have hlI : (0 : Int) < l := by omega
  have k1 : ∀ X Y Z, (((w.alloc X).alloc Y).alloc Z).cell? ⟨b, o, none⟩ = some (.string p) := fun X Y Z => Cells.alloc _ _ _ _ (Cells.alloc _ _ _ _ (Cells.alloc _ _ _ _ g1))
  clear g1
  go_enter Tryd.func20, Tryd.ntmps20
  go_wp2_with fail
  refine bodyPost_ret (results_cell_row rfl _ _ (w.heap.size + 1) 28 (actV (actR ⟨7, 0, [toL p], []⟩) nilV nilV).toArray (0, 0) _ rfl (heap_mid _ _ _ _) Tryd.underlying28 rfl sizeAct) rfl ?_
  exact ⟨_, rfl, ⟨none, 0, none, 0, rfl, Bs.none_ _, Bs.none_ _⟩, below_three _ _ _⟩
set_option maxRecDepth 100000 in
set_option maxHeartbeats 4000000 in
theorem act1_ref (w : World) (sub : Int) (p q : ByteArray) (t : Value) (b o c : Nat) (g1 : w.cell? ⟨b, o, none⟩ = some (.string p)) (g2 : w.cell? ⟨b, o + 1, none⟩ = some (.string q)) :
    Calls Tryd.prog 20 #[.agg #[.int .i64 1, .int .i64 sub, .slice (some ⟨b, o, none⟩) 2 c, t]] w (ActPost w (actR ⟨1, sub, [toL p, toL q], []⟩)) := by
  have k1 : ∀ X Y Z, (((w.alloc X).alloc Y).alloc Z).cell? ⟨b, o, none⟩ = some (.string p) := fun X Y Z => Cells.alloc _ _ _ _ (Cells.alloc _ _ _ _ (Cells.alloc _ _ _ _ g1))
  have k2 : ∀ X Y Z, (((w.alloc X).alloc Y).alloc Z).cell? ⟨b, o + 1, none⟩ = some (.string q) := fun X Y Z => Cells.alloc _ _ _ _ (Cells.alloc _ _ _ _ (Cells.alloc _ _ _ _ g2))
  clear g1 g2
  go_enter Tryd.func20, Tryd.ntmps20
  go_wp2_with fail
  refine bodyPost_ret (results_cell_row rfl _ _ (w.heap.size + 1) 28 (actV (actR ⟨1, sub, [toL p, toL q], []⟩) nilV nilV).toArray (0, 0) _ rfl (heap_mid _ _ _ _) Tryd.underlying28 rfl sizeAct) rfl ?_
  exact ⟨_, rfl, ⟨none, 0, none, 0, rfl, Bs.none_ _, Bs.none_ _⟩, below_three _ _ _⟩
set_option maxRecDepth 100000 in
set_option maxHeartbeats 4000000 in
theorem act1z_ref (w : World) (sub : Int) (t : Value) (A : Option Addr) (c : Nat)  :
    Calls Tryd.prog 20 #[.agg #[.int .i64 1, .int .i64 sub, .slice A 0 c, t]] w (ActPost w (actR ⟨1, sub, [], []⟩)) := by
  go_enter Tryd.func20, Tryd.ntmps20
  go_wp2_with fail
  refine bodyPost_ret (results_cell_row rfl _ _ (w.heap.size + 1) 28 (actV (actR ⟨1, sub, [], []⟩) nilV nilV).toArray (0, 0) _ rfl (heap_mid _ _ _ _) Tryd.underlying28 rfl sizeAct) rfl ?_
  exact ⟨_, rfl, ⟨none, 0, none, 0, rfl, Bs.none_ _, Bs.none_ _⟩, below_three _ _ _⟩
end Go.Proofs.YtbmnbhammganfaaDoor
namespace Go.Proofs.YtbmnbhammganfaaDoor
open Go.RowKit Go.Maps

set_option linter.unusedSimpArgs false

attribute [local go_sem] lt1 lt2 lt3 lt4 lt5 lt6

theorem heap_top (w : World) (X Y Z : Obj) : (((w.alloc X).alloc Y).alloc Z).heap[w.heap.size + 1 + 1]? = some Z := by
  have := heap_alloc_new ((w.alloc X).alloc Y) Z
  rwa [show ((w.alloc X).alloc Y).heap.size = w.heap.size + 1 + 1 by simp] at this
set_option maxRecDepth 100000 in
set_option maxHeartbeats 4000000 in
theorem act6_ref (w : World) (p q : ByteArray) (hq : q.size ≤ 1048576) (t : Value) (b o c : Nat) (g1 : w.cell? ⟨b, o, none⟩ = some (.string p)) (g2 : w.cell? ⟨b, o + 1, none⟩ = some (.string q)) :
    Calls Tryd.prog 20 #[.agg #[.int .i64 6, .int .i64 0, .slice (some ⟨b, o, none⟩) 2 c, t]] w (ActPost w (actR ⟨6, 0, [toL p, toL q], []⟩)) := by
  have k1 : ∀ X Y Z, (((w.alloc X).alloc Y).alloc Z).cell? ⟨b, o, none⟩ = some (.string p) := fun X Y Z => Cells.alloc _ _ _ _ (Cells.alloc _ _ _ _ (Cells.alloc _ _ _ _ g1))
  have k2 : ∀ X Y Z, (((w.alloc X).alloc Y).alloc Z).cell? ⟨b, o + 1, none⟩ = some (.string q) := fun X Y Z => Cells.alloc _ _ _ _ (Cells.alloc _ _ _ _ (Cells.alloc _ _ _ _ g2))
  clear g1 g2
  go_enter Tryd.func20, Tryd.ntmps20
  go_wp2_with fail
  obtain ⟨v, w', hrun, hdat, hB⟩ := bytes_dat (((w.alloc (.cells #[.int .i64 6, .int .i64 0, .slice (some ⟨b, o, none⟩) 2 c, t] 49)).alloc (.cells (actV zAct nilV nilV).toArray 28)).alloc (.cells (actV { zAct with kind := 6, name := toL p } nilV nilV).toArray 28)) q hq
  have hr := (hB.block (w.heap.size + 1) (by simp)).trans (heap_mid _ _ _ _)
  have ho := (hB.block (w.heap.size + 1 + 1) (by simp)).trans (heap_top _ _ _ _)
  have HBz := Lib.hid ((below_three (w := w) (.cells #[.int .i64 6, .int .i64 0, .slice (some ⟨b, o, none⟩) 2 c, t] 49) (.cells (actV zAct nilV nilV).toArray 28) (.cells (actV { zAct with kind := 6, name := toL p } nilV nilV).toArray 28)).trans (hB.mono (below_three _ _ _).size))
  obtain ⟨A5, c5, rfl, hbs⟩ := hdat.form
  have Hbs := Lib.hid hbs
  have Hdat : Hid (Dat w' (w.heap.size + 1 + 1 + 1) (.slice A5 (toL q).length c5) (toL q)) := Lib.hid (hdat.base (by simp))
  have Hr := Lib.hid hr
  have Ho := Lib.hid ho
  clear hdat hbs hr ho hB
  have hrun' := hrun
  simp only [actV, zAct, nilV, mkS_toL] at hrun'
  rw [show mkS [] = (⟨#[]⟩ : ByteArray) from rfl] at hrun'
  rw [hrun']
  clear hrun hrun' k1 k2
  obtain ⟨p0, p1, p2, p3, p4, p5, p6, p7, p8, p9, p10, p11, p12⟩ := row13 Ho.out
  simp only [nilV, zAct, mkS_toL] at p0 p1 p2 p3 p4 p5 p6 p7 p8 p9 p10 p11 p12
  have hz2 := (blk_cells Ho.out).2.1
  have Hrow : Hid ((w'.setCell ⟨w.heap.size + 1 + 1, 5, none⟩ (.slice A5 (toL q).length c5)).heap[w.heap.size + 1]? = some (.cells (actV zAct nilV nilV).toArray 28 (0, 0))) := Lib.hid (((Fr.setCell [w.heap.size + 1 + 1] w' ⟨w.heap.size + 1 + 1, 5, none⟩ _ (by simp)).block (w.heap.size + 1) (lt_of_heap Hr.out) (by simp)).trans Hr.out)
  go_wp2_with ((with_reducible refine at_store 28 ?_); refine wpList_store_row rfl 28 _ _ rfl (w.heap.size + 1) (actV { zAct with kind := 6, name := toL p, data := toL q } (.slice A5 (toL q).length c5) nilV).toArray rfl rfl 28 (actV zAct nilV nilV).toArray Hrow.out sizeAct rfl (all_oneCell_toArray (actV_one rfl rfl)) ?_)
  refine bodyPost_ret (results_cell_row rfl _ _ (w.heap.size + 1) 28 (actV { zAct with kind := 6, name := toL p, data := toL q } (.slice A5 (toL q).length c5) nilV).toArray (0, 0) _ rfl (setRow_heap _ _ _ _ _ _ Hrow.out) Tryd.underlying28 rfl sizeAct) rfl ?_
  have hf := Fr.setCell [w.heap.size + 1 + 1] w' ⟨w.heap.size + 1 + 1, 5, none⟩ (.slice A5 (toL q).length c5) (by simp)
  have hk := (Hdat.out.keep (w' := (w'.setCell ⟨w.heap.size + 1 + 1, 5, none⟩ (.slice A5 (toL q).length c5)).setRow (w.heap.size + 1) (actV { zAct with kind := 6, name := toL p, data := toL q } (.slice A5 (toL q).length c5) nilV).toArray) fun k h1 h2 => (setRow_other _ _ _ _ (by omega)).trans (hf.block k h2 (by simp; omega)))
  obtain ⟨A6, c6, he, hb6⟩ := hk.form
  cases he
  refine ⟨_, rfl, ⟨A5, c5, none, 0, rfl, hb6, Bs.none_ _⟩, ?_⟩
  have hbs := HBz.out.size
  exact below_row (w := w'.setCell ⟨w.heap.size + 1 + 1, 5, none⟩ (.slice A5 (toL q).length c5)) ⟨hf.os.trans HBz.out.os, hf.tape.trans HBz.out.tape, hf.output.trans HBz.out.output, Nat.le_trans HBz.out.size hf.size, fun k hk => (hf.block k (by omega) (by simp; omega)).trans (HBz.out.block k hk)⟩ (by omega) _
set_option maxRecDepth 100000 in
set_option maxHeartbeats 4000000 in
theorem act9_ref (w : World) (p q : ByteArray) (hq : q.size ≤ 1048576) (t : Value) (b o c : Nat) (g1 : w.cell? ⟨b, o, none⟩ = some (.string p)) (g2 : w.cell? ⟨b, o + 1, none⟩ = some (.string q)) :
    Calls Tryd.prog 20 #[.agg #[.int .i64 9, .int .i64 0, .slice (some ⟨b, o, none⟩) 2 c, t]] w (ActPost w (actR ⟨9, 0, [toL p, toL q], []⟩)) := by
  have k1 : ∀ X Y Z, (((w.alloc X).alloc Y).alloc Z).cell? ⟨b, o, none⟩ = some (.string p) := fun X Y Z => Cells.alloc _ _ _ _ (Cells.alloc _ _ _ _ (Cells.alloc _ _ _ _ g1))
  have k2 : ∀ X Y Z, (((w.alloc X).alloc Y).alloc Z).cell? ⟨b, o + 1, none⟩ = some (.string q) := fun X Y Z => Cells.alloc _ _ _ _ (Cells.alloc _ _ _ _ (Cells.alloc _ _ _ _ g2))
  clear g1 g2
  go_enter Tryd.func20, Tryd.ntmps20
  go_wp2_with fail
  obtain ⟨v, w', hrun, hdat, hB⟩ := bytes_dat (((w.alloc (.cells #[.int .i64 9, .int .i64 0, .slice (some ⟨b, o, none⟩) 2 c, t] 49)).alloc (.cells (actV zAct nilV nilV).toArray 28)).alloc (.cells (actV { zAct with kind := 9, name := toL p } nilV nilV).toArray 28)) q hq
  have hr := (hB.block (w.heap.size + 1) (by simp)).trans (heap_mid _ _ _ _)
  have ho := (hB.block (w.heap.size + 1 + 1) (by simp)).trans (heap_top _ _ _ _)
  have HBz := Lib.hid ((below_three (w := w) (.cells #[.int .i64 9, .int .i64 0, .slice (some ⟨b, o, none⟩) 2 c, t] 49) (.cells (actV zAct nilV nilV).toArray 28) (.cells (actV { zAct with kind := 9, name := toL p } nilV nilV).toArray 28)).trans (hB.mono (below_three _ _ _).size))
  obtain ⟨A5, c5, rfl, hbs⟩ := hdat.form
  have Hbs := Lib.hid hbs
  have Hdat : Hid (Dat w' (w.heap.size + 1 + 1 + 1) (.slice A5 (toL q).length c5) (toL q)) := Lib.hid (hdat.base (by simp))
  have Hr := Lib.hid hr
  have Ho := Lib.hid ho
  clear hdat hbs hr ho hB
  have hrun' := hrun
  simp only [actV, zAct, nilV, mkS_toL] at hrun'
  rw [show mkS [] = (⟨#[]⟩ : ByteArray) from rfl] at hrun'
  rw [hrun']
  clear hrun hrun' k1 k2
  obtain ⟨p0, p1, p2, p3, p4, p5, p6, p7, p8, p9, p10, p11, p12⟩ := row13 Ho.out
  simp only [nilV, zAct, mkS_toL] at p0 p1 p2 p3 p4 p5 p6 p7 p8 p9 p10 p11 p12
  have hz2 := (blk_cells Ho.out).2.1
  have Hrow : Hid ((w'.setCell ⟨w.heap.size + 1 + 1, 5, none⟩ (.slice A5 (toL q).length c5)).heap[w.heap.size + 1]? = some (.cells (actV zAct nilV nilV).toArray 28 (0, 0))) := Lib.hid (((Fr.setCell [w.heap.size + 1 + 1] w' ⟨w.heap.size + 1 + 1, 5, none⟩ _ (by simp)).block (w.heap.size + 1) (lt_of_heap Hr.out) (by simp)).trans Hr.out)
  go_wp2_with ((with_reducible refine at_store 28 ?_); refine wpList_store_row rfl 28 _ _ rfl (w.heap.size + 1) (actV { zAct with kind := 9, name := toL p, data := toL q } (.slice A5 (toL q).length c5) nilV).toArray rfl rfl 28 (actV zAct nilV nilV).toArray Hrow.out sizeAct rfl (all_oneCell_toArray (actV_one rfl rfl)) ?_)
  refine bodyPost_ret (results_cell_row rfl _ _ (w.heap.size + 1) 28 (actV { zAct with kind := 9, name := toL p, data := toL q } (.slice A5 (toL q).length c5) nilV).toArray (0, 0) _ rfl (setRow_heap _ _ _ _ _ _ Hrow.out) Tryd.underlying28 rfl sizeAct) rfl ?_
  have hf := Fr.setCell [w.heap.size + 1 + 1] w' ⟨w.heap.size + 1 + 1, 5, none⟩ (.slice A5 (toL q).length c5) (by simp)
  have hk := (Hdat.out.keep (w' := (w'.setCell ⟨w.heap.size + 1 + 1, 5, none⟩ (.slice A5 (toL q).length c5)).setRow (w.heap.size + 1) (actV { zAct with kind := 9, name := toL p, data := toL q } (.slice A5 (toL q).length c5) nilV).toArray) fun k h1 h2 => (setRow_other _ _ _ _ (by omega)).trans (hf.block k h2 (by simp; omega)))
  obtain ⟨A6, c6, he, hb6⟩ := hk.form
  cases he
  refine ⟨_, rfl, ⟨A5, c5, none, 0, rfl, hb6, Bs.none_ _⟩, ?_⟩
  have hbs := HBz.out.size
  exact below_row (w := w'.setCell ⟨w.heap.size + 1 + 1, 5, none⟩ (.slice A5 (toL q).length c5)) ⟨hf.os.trans HBz.out.os, hf.tape.trans HBz.out.tape, hf.output.trans HBz.out.output, Nat.le_trans HBz.out.size hf.size, fun k hk => (hf.block k (by omega) (by simp; omega)).trans (HBz.out.block k hk)⟩ (by omega) _
end Go.Proofs.YtbmnbhammganfaaDoor
namespace Go.Proofs.YtbmnbhammganfaaDoor
open Go.RowKit Go.Maps

set_option linter.unusedSimpArgs false

attribute [local go_sem] lt1 lt2 lt3 lt4 lt5 lt6

theorem heap_low (w : World) (X Y Z : Obj) : (((w.alloc X).alloc Y).alloc Z).heap[w.heap.size]? = some X := (Below.heap_alloc _ _ _ (by simp; omega)).trans ((Below.heap_alloc _ _ _ (by simp)).trans (heap_alloc_new w X))
/-- five cells at the row's place 8 -/
theorem heap_five {w : World} {b : Nat} {t : TypeId} {v0 v1 v2 v3 v4 v5 v6 v7 v8 v9 v10 v11 v12 u0 u1 u2 u3 u4 : Value} (h : w.heap[b]? = some (.cells #[v0, v1, v2, v3, v4, v5, v6, v7, v8, v9, v10, v11, v12] t (0, 0))) :
    (w.setCells b 8 [u0, u1, u2, u3, u4]).heap[b]? = some (.cells #[v0, v1, v2, v3, v4, v5, v6, v7, u0, u1, u2, u3, u4] t (0, 0)) := by
  simp only [World.setCells]
  have h0 := heap_setCell_at h 8 u0
  have h1 := heap_setCell_at h0 9 u1
  have h2 := heap_setCell_at h1 10 u2
  have h3 := heap_setCell_at h2 11 u3
  have h4 := heap_setCell_at h3 12 u4
  exact h4
theorem there_five {w : World} {b : Nat} {t : TypeId} {v0 v1 v2 v3 v4 v5 v6 v7 v8 v9 v10 v11 v12 : Value} (h : w.heap[b]? = some (.cells #[v0, v1, v2, v3, v4, v5, v6, v7, v8, v9, v10, v11, v12] t (0, 0))) : w.there b 8 5 := fun j hj => by
  have hc := blk_cells h
  refine ⟨?_, hc.2.1 _⟩
  rw [hc.1]
  have : j = 0 ∨ j = 1 ∨ j = 2 ∨ j = 3 ∨ j = 4 := by omega
  rcases this with rfl | rfl | rfl | rfl | rfl <;> rfl
theorem fr_five (w : World) (b : Nat) (u0 u1 u2 u3 u4 : Value) : Fr [b] w (w.setCells b 8 [u0, u1, u2, u3, u4]) := by
  simp only [World.setCells]
  exact (Fr.setCell [b] _ _ _ (by simp)).trans ((Fr.setCell [b] _ _ _ (by simp)).trans ((Fr.setCell [b] _ _ _ (by simp)).trans ((Fr.setCell [b] _ _ _ (by simp)).trans (Fr.setCell [b] _ _ _ (by simp)))))
theorem sizeFault : (Tryd.prog.info? 26).map (·.size) = some 5 := by kernel_rfl
set_option maxRecDepth 100000 in
set_option maxHeartbeats 4000000 in
theorem act8_ref (w : World) (sub n m : Int) (p q : ByteArray) (hq : q.size ≤ 1048576) (b o c b2 o2 c2 : Nat) (g1 : w.cell? ⟨b, o, none⟩ = some (.string p)) (g2 : w.cell? ⟨b, o + 1, none⟩ = some (.string q)) (g3 : w.cell? ⟨b2, o2, none⟩ = some (.int .i64 n)) (g4 : w.cell? ⟨b2, o2 + 1, none⟩ = some (.int .i64 m)) :
    Calls Tryd.prog 20 #[.agg #[.int .i64 8, .int .i64 sub, .slice (some ⟨b, o, none⟩) 2 c, .slice (some ⟨b2, o2, none⟩) 2 c2]] w (ActPost w (actR ⟨8, sub, [toL p, toL q], [n, m]⟩)) := by
  have k1 : ∀ X Y Z, (((w.alloc X).alloc Y).alloc Z).cell? ⟨b, o, none⟩ = some (.string p) := fun X Y Z => Cells.alloc _ _ _ _ (Cells.alloc _ _ _ _ (Cells.alloc _ _ _ _ g1))
  have k2 : ∀ X Y Z, (((w.alloc X).alloc Y).alloc Z).cell? ⟨b, o + 1, none⟩ = some (.string q) := fun X Y Z => Cells.alloc _ _ _ _ (Cells.alloc _ _ _ _ (Cells.alloc _ _ _ _ g2))
  have k3 : ∀ X Y Z, (((w.alloc X).alloc Y).alloc Z).cell? ⟨b2, o2, none⟩ = some (.int .i64 n) := fun X Y Z => Cells.alloc _ _ _ _ (Cells.alloc _ _ _ _ (Cells.alloc _ _ _ _ g3))
  have k4 : ∀ X Y Z, (((w.alloc X).alloc Y).alloc Z).cell? ⟨b2, o2 + 1, none⟩ = some (.int .i64 m) := fun X Y Z => Cells.alloc _ _ _ _ (Cells.alloc _ _ _ _ (Cells.alloc _ _ _ _ g4))
  clear g1 g2 g3 g4
  go_enter Tryd.func20, Tryd.ntmps20
  go_wp2_with fail
  generalize hW3 : World.alloc (World.alloc (World.alloc w _) _) _ = W3
  have hA : W3.heap[w.heap.size]? = some (.cells #[.int .i64 8, .int .i64 sub, .slice (some ⟨b, o, none⟩) 2 c, .slice (some ⟨b2, o2, none⟩) 2 c2] 49 (0, 0)) := by rw [← hW3]; exact heap_low _ _ _ _
  have hR : W3.heap[w.heap.size + 1]? = some (.cells (actV zAct nilV nilV).toArray 28 (0, 0)) := by rw [← hW3]; exact heap_mid _ _ _ _
  have hO : W3.heap[w.heap.size + 1 + 1]? = some (.cells (actV { zAct with kind := 8 } nilV nilV).toArray 28 (0, 0)) := by rw [← hW3]; exact heap_top _ _ _ _
  have hB3 : Below w.heap.size w W3 := by rw [← hW3]; exact below_three _ _ _
  have s1 : W3.drew.cell? ⟨b, o, none⟩ = some (.string p) := by rw [← hW3]; exact k1 _ _ _
  have s2 : W3.drew.cell? ⟨b, o + 1, none⟩ = some (.string q) := by rw [← hW3]; exact k2 _ _ _
  have s3 : W3.drew.cell? ⟨b2, o2, none⟩ = some (.int .i64 n) := by rw [← hW3]; exact k3 _ _ _
  have s4 : W3.drew.cell? ⟨b2, o2 + 1, none⟩ = some (.int .i64 m) := by rw [← hW3]; exact k4 _ _ _
  have hAd : W3.drew.heap[w.heap.size]? = some (.cells #[.int .i64 8, .int .i64 sub, .slice (some ⟨b, o, none⟩) 2 c, .slice (some ⟨b2, o2, none⟩) 2 c2] 49 (0, 0)) := hA
  have r1 : W3.drew.cell? ⟨w.heap.size, 1, none⟩ = some (.int .i64 sub) := (blk_cells hAd).1 1
  have r2 : W3.drew.cell? ⟨w.heap.size, 2, none⟩ = some (.slice (some ⟨b, o, none⟩) 2 c) := (blk_cells hAd).1 2
  have r3 : W3.drew.cell? ⟨w.heap.size, 3, none⟩ = some (.slice (some ⟨b2, o2, none⟩) 2 c2) := (blk_cells hAd).1 3
  obtain ⟨v, w', hrun, hdat, hB⟩ := bytes_dat W3.drew q hq
  obtain ⟨A5, c5, rfl, hbs⟩ := hdat.form
  have hs3 : W3.heap.size = w.heap.size + 1 + 1 + 1 := by rw [← hW3]; simp
  have hc := Cells.of_below hB
  have t1 := hc _ _ s1
  have t2 := hc _ _ s2
  have t3 := hc _ _ s3
  have t4 := hc _ _ s4
  have q1 := hc _ _ r1
  have q2 := hc _ _ r2
  have q3 := hc _ _ r3
  have HO := Lib.hid ((hB.block (w.heap.size + 1 + 1) (by show _ < W3.heap.size; omega)).trans hO)
  have HR := Lib.hid ((hB.block (w.heap.size + 1) (by show _ < W3.heap.size; omega)).trans hR)
  have HBz := Lib.hid ((below_drewN hB3 1).trans (hB.mono hB3.size))
  have Hdat : Hid (Dat w' (w.heap.size + 1 + 1 + 1) (.slice A5 (toL q).length c5) (toL q)) := Lib.hid (hdat.base (by show _ ≤ W3.heap.size; omega))
  have hw3 := hB.size
  clear hW3 hA hR hO hB3 hAd hbs hc k1 k2 k3 k4 hdat hB
  with_reducible refine g_mixx [(0, 0), (1, 0), (2, 0), (3, 0), (4, 0), (5, 0), (6, 0), (7, 0), (8, 0), (9, 0), (10, 0), (11, 0), (12, 0), (13, 0), (14, 0), (15, 0), (16, 0), (17, 0), (18, 2), (19, 1), (20, 1), (21, 3)] (fun w' => (w'.cell? ⟨w.heap.size, 1, none⟩ = some (.int .i64 sub) ∧ w'.cell? ⟨w.heap.size, 2, none⟩ = some (.slice (some ⟨b, o, none⟩) 2 c) ∧ w'.cell? ⟨w.heap.size, 3, none⟩ = some (.slice (some ⟨b2, o2, none⟩) 2 c2)) ∧ w'.cell? ⟨b, o, none⟩ = some (.string p) ∧ w'.cell? ⟨b, o + 1, none⟩ = some (.string q) ∧ w'.cell? ⟨b2, o2, none⟩ = some (.int .i64 n) ∧ w'.cell? ⟨b2, o2 + 1, none⟩ = some (.int .i64 m)) 0 _ rfl (by kernel_rfl) (by kernel_rfl) ?_ ?_
  · exact ⟨⟨r1, r2, r3⟩, s1, s2, s3, s4⟩
  intro OPS HD
  simp only [mixX, nthO, consX]
  iterate 18 ((with_reducible refine x_val (v := ?_) ?_ ?_ ?_); rotate_left; (rintro _ ⟨⟨h1, h2, h3⟩, h4, h5, h6, h7⟩; go_simp; first | done | rfl | (constructor <;> rfl)); exact ⟨⟨r1, r2, r3⟩, s1, s2, s3, s4⟩)
  with_reducible refine x_one ?_
  with_reducible refine l_val (v := (.slice A5 (toL q).length c5)) (w' := w') ?_ ?_
  · go_simp
  refine x_keep ⟨⟨q1, q2, q3⟩, t1, t2, t3, t4⟩ ?_
  iterate 2 ((with_reducible refine x_any (v := ?_) ?_ ?_); rotate_left; (rintro _; go_simp; first | done | rfl | (constructor <;> rfl)))
  with_reducible refine x_three ?_
  have hO13 := HO.out
  simp only [actV, zAct, nilV] at hO13
  refine wpList_store_mid rfl 26 _ _ rfl (w.heap.size + 1 + 1) 8 #[.string p, .int .i64 n, .int .i64 sub, .int .i64 m, .slice A5 (toL q).length c5] (by simp [Act.eval, Act.put]) (by simp [Act.eval, Act.put]) (there_five hO13) sizeFault (all_oneCell_toArray (cs := [.string p, .int .i64 n, .int .i64 sub, .int .i64 m, .slice A5 (toL q).length c5]) (by intro u hu; simp only [List.mem_cons, List.not_mem_nil, or_false] at hu; rcases hu with rfl | rfl | rfl | rfl | rfl <;> rfl)) ?_
  with_reducible refine x_last ?_
  with_reducible refine x_end ?_
  simp only [Act.put, List.setIfInBounds_toArray, List.set_cons_zero, List.set_cons_succ]
  generalize hW5 : World.setCells w' (w.heap.size + 1 + 1) 8 _ = w5
  have HO5 : Hid (w5.heap[w.heap.size + 1 + 1]? = some (.cells #[.int .i64 8, .int .i64 0, .string (mkS []), .string (mkS []), .string (mkS []), .slice none 0 0, .int .i64 0, .int .i64 0, .string p, .int .i64 n, .int .i64 sub, .int .i64 m, .slice A5 (toL q).length c5] 28 (0, 0))) := Lib.hid (by rw [← hW5]; exact heap_five hO13)
  have hoth : ∀ k, k < w'.heap.size → k ≠ w.heap.size + 1 + 1 → w5.heap[k]? = w'.heap[k]? := fun k hk hn => by rw [← hW5]; exact (fr_five w' _ _ _ _ _ _).block k hk (by simpa using hn)
  have hsz5 : w5.heap.size = w'.heap.size := by rw [← hW5]; simp [World.setCells]
  have hrl := lt_of_heap HR.out
  have hol := lt_of_heap HO.out
  have HR5 := Lib.hid ((hoth (w.heap.size + 1) (by omega) (by omega)).trans HR.out)
  have Hdat5 : Hid (Dat w5 (w.heap.size + 1 + 1 + 1) (.slice A5 (toL q).length c5) (toL q)) := Lib.hid (Hdat.out.keep fun k h1 h2 => hoth k h2 (by omega))
  have HB5 : Hid (Below w.heap.size w w5) := Lib.hid (by
    have h0 := HBz.out
    refine ⟨?_, ?_, ?_, by rw [hsz5]; exact h0.size, fun k hk => (hoth k (by have := h0.size; omega) (by omega)).trans (h0.block k hk)⟩
    · rw [← hW5]; exact h0.os
    · rw [← hW5]; exact h0.tape
    · rw [← hW5]; exact h0.output)
  clear hW5 hoth hO13 HO HR Hdat HBz
  obtain ⟨p0, p1, p2, p3, p4, p5, p6, p7, p8, p9, p10, p11, p12⟩ := row13 HO5.out
  have e0 : mkS [] = (⟨#[]⟩ : ByteArray) := rfl
  rw [e0] at p2 p3 p4
  clear r1 r2 r3 s1 s2 s3 s4 t1 t2 t3 t4 q1 q2 q3 hrun HD e0
  go_wp2_with ((with_reducible refine at_store 28 ?_); refine wpList_store_row rfl 28 _ _ rfl (w.heap.size + 1) (actV { zAct with kind := 8, url := toL p, att := n, fk := sub, fn := m, fdata := toL q } nilV (.slice A5 (toL q).length c5)).toArray rfl (by simp [Act.eval, actV, zAct, nilV, mkS_toL]; rfl) 28 (actV zAct nilV nilV).toArray HR5.out sizeAct rfl (all_oneCell_toArray (actV_one rfl rfl)) ?_)
  refine bodyPost_ret (results_cell_row rfl _ _ (w.heap.size + 1) 28 (actV { zAct with kind := 8, url := toL p, att := n, fk := sub, fn := m, fdata := toL q } nilV (.slice A5 (toL q).length c5)).toArray (0, 0) _ rfl (setRow_heap _ _ _ _ _ _ HR5.out) Tryd.underlying28 rfl sizeAct) rfl ?_
  have hk := Hdat5.out.keep (w' := w5.setRow (w.heap.size + 1) (actV { zAct with kind := 8, url := toL p, att := n, fk := sub, fn := m, fdata := toL q } nilV (.slice A5 (toL q).length c5)).toArray) fun k h1 h2 => setRow_other _ _ _ _ (by omega)
  obtain ⟨A6, c6, he, hb6⟩ := hk.form
  cases he
  exact ⟨_, rfl, ⟨none, 0, A5, c5, rfl, Bs.none_ _, hb6⟩, below_row HB5.out (by omega) _⟩
end Go.Proofs.YtbmnbhammganfaaDoor
