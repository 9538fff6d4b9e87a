/-
  The writer of the package: how it lies in memory, its functions. (Printed by wip/abexp.py.)
  The writer of the package: a mark, numbers of two bytes or of four. (Printed by wip/abexp.py.)
-/
import Derived.Test.YtdmladdpbdcpjaaDoorArkFiles
import Derived.Test.YtdmladdpbdcpjaaDoorArkAbs
import Derived.Lib.AppendStr
import Derived.Laws.EntriesVeiled
namespace Go.Proofs.YtdmladdpbdcpjaaDoor
open Go.RowKit

set_option linter.unusedSimpArgs false

attribute [local go_sem] lt1 lt2 lt3 lt4 lt5 lt6

/-! ### what the writer's steps may turn -/
def WTy (t : TypeId) : Prop := t = 5 ∨ t = 110
def WBlk (w : World) (k : Nat) : Prop := ∃ cs t fr, w.heap[k]? = some (.cells cs t fr) ∧ WTy t
/-- only rows of bytes and writers, made behind 'base', may have turned -/
structure FrW (base : Nat) (w w' : World) : Prop where
  os : w'.os = w.os
  tape : w'.tape = w.tape
  output : w'.output = w.output
  size : w.heap.size ≤ w'.heap.size
  block : ∀ k, k < w.heap.size → (k < base ∨ ¬ WBlk w k) → w'.heap[k]? = w.heap[k]?
theorem FrW.refl (base : Nat) (w : World) : FrW base w w := ⟨rfl, rfl, rfl, Nat.le_refl _, fun _ _ _ => rfl⟩
theorem FrW.trans {base : Nat} {a b c : World} (h : FrW base a b) (k : FrW base b c) : FrW base a c :=
  ⟨k.os.trans h.os, k.tape.trans h.tape, k.output.trans h.output, Nat.le_trans h.size k.size, fun i hi hn => by
    have e := h.block i hi hn
    refine (k.block i (Nat.lt_of_lt_of_le hi h.size) (hn.imp id fun hh hr => hh ?_)).trans e
    obtain ⟨cs, t, fr, h1, h2⟩ := hr
    exact ⟨cs, t, fr, e.symm.trans h1, h2⟩⟩
theorem FrW.of_below {base : Nat} {w w' : World} (h : Below w.heap.size w w') : FrW base w w' := ⟨h.os, h.tape, h.output, h.size, fun k hk _ => h.block k hk⟩
theorem FrW.below {base : Nat} {w w' : World} (h : FrW base w w') (hb : base ≤ w.heap.size) : Below base w w' := ⟨h.os, h.tape, h.output, h.size, fun k hk => h.block k (by omega) (.inl hk)⟩
theorem FrW.drewN (base : Nat) (w : World) (n : Nat) : FrW base w (w.drewN n) := ⟨rfl, rfl, rfl, Nat.le_refl _, fun _ _ _ => rfl⟩
theorem FrW.of_fr {base : Nat} {S : List Nat} {w w' : World} (h : Fr S w w') (hS : ∀ k, k ∈ S → base ≤ k ∧ (k < w.heap.size → WBlk w k)) : FrW base w w' :=
  ⟨h.os, h.tape, h.output, h.size, fun k hk hn => h.block k hk fun hh => by
    obtain ⟨h1, h2⟩ := hS k hh
    rcases hn with hn | hn
    · omega
    · exact hn (h2 hk)⟩
/-- a block of another kind is as it was -/
theorem FrW.other {base : Nat} {w w' : World} (h : FrW base w w') {k : Nat} {cs : Array Value} {t : TypeId} {fr : Nat × Nat} (hk : w.heap[k]? = some (.cells cs t fr)) (ht : ¬ WTy t) : w'.heap[k]? = some (.cells cs t fr) :=
  (h.block k (lt_of_heap hk) (.inr fun ⟨cs', t', fr', h1, h2⟩ => by rw [hk] at h1; cases h1; exact ht h2)).trans hk
theorem not_w_int : ¬ WTy 3 := by unfold WTy; decide
theorem not_w_ptr : ¬ WTy 106 := by unfold WTy; decide
theorem not_w_file : ¬ WTy 46 := by unfold WTy; decide
theorem FrW.of_grown {base : Nat} {w w' : World} {v : Value} {n : Nat} {xs : List Value} (hown : w.ownsRow base 5 1 v n xs) (h : w.grownBy w' v.ownBlock) : FrW base w w' :=
  FrW.of_fr (Fr.of_grown h) fun k hk => by
    simp only [Option.mem_toList] at hk
    obtain ⟨h1, cur, h2⟩ := own_blk hown k hk
    exact ⟨h1, fun _ => ⟨cur, _, _, h2, .inl rfl⟩⟩
/-! ### the writer -/
def FW (g gv : Nat) : Value := .func (.func 94) #[] #[.pointer (some ⟨g, 0, none⟩), .pointer (some ⟨gv, 0, none⟩)]
/-- a writer that holds the bytes B -/
structure Wr (w : World) (base gw gv g2 g4 : Nat) (b : Value) (B : List UInt8) : Prop where
  blk : w.heap[gw]? = some (.cells #[b, FW g2 gv, FW g4 gv] 110 (0, 0))
  var : w.heap[gv]? = some (.cells #[.pointer (some ⟨gw, 0, none⟩)] 106 (0, 0))
  two : w.heap[g2]? = some (.cells #[.int .i64 2] 3 (0, 0))
  four : w.heap[g4]? = some (.cells #[.int .i64 4] 3 (0, 0))
  row : w.ownsRow base 5 1 b B.length (u8s B)
  le : base ≤ gw
theorem Wr.below {w w' : World} {base gw gv g2 g4 : Nat} {b : Value} {B : List UInt8} (h : Wr w base gw gv g2 g4 b B) (hb : Below w.heap.size w w') : Wr w' base gw gv g2 g4 b B :=
  ⟨(hb.block _ (lt_of_heap h.blk)).trans h.blk, (hb.block _ (lt_of_heap h.var)).trans h.var, (hb.block _ (lt_of_heap h.two)).trans h.two, (hb.block _ (lt_of_heap h.four)).trans h.four, own_keep h.row fun g _ hg => (hb.block g (lt_of_heap hg)).trans hg, h.le⟩
theorem Wr.drewN {w : World} {base gw gv g2 g4 : Nat} {b : Value} {B : List UInt8} (h : Wr w base gw gv g2 g4 b B) (n : Nat) : Wr (w.drewN n) base gw gv g2 g4 b B := ⟨h.blk, h.var, h.two, h.four, h.row, h.le⟩
/-- bytes laid behind those that it holds: b grown, then stored -/
theorem Wr.laid {w w' : World} {base gw gv g2 g4 : Nat} {b b' : Value} {B B' : List UInt8} (h : Wr w base gw gv g2 g4 b B) (hg : w.grownBy w' b.ownBlock) (hrow : w'.ownsRow base 5 1 b' B'.length (u8s B')) :
    Wr (w'.setCell ⟨gw, 0, none⟩ b') base gw gv g2 g4 b' B' ∧ FrW base w (w'.setCell ⟨gw, 0, none⟩ b') := by
  have hf := FrW.of_grown h.row hg
  have hne : ∀ (k : Nat) (cs : Array Value) (t : TypeId), w.heap[k]? = some (.cells cs t (0, 0)) → t ≠ 5 → w'.heap[k]? = some (.cells cs t (0, 0)) := fun k cs t hk ht => by
    refine (hg.block k (lt_of_heap hk) fun e => ?_).trans hk
    obtain ⟨_, cur, hc⟩ := own_blk h.row k e.symm
    rw [hk] at hc
    simp at hc
    exact ht hc.2
  have hb := hne _ _ _ h.blk (by decide)
  have hs : Fr [gw] w' (w'.setCell ⟨gw, 0, none⟩ b') := Fr.setCell _ _ _ _ (by simp)
  have hdiff : ∀ (k : Nat) (cs : Array Value) (t : TypeId), w'.heap[k]? = some (.cells cs t (0, 0)) → t ≠ 110 → k ≠ gw := fun k cs t hk ht e => by
    subst e
    rw [hk] at hb
    simp at hb
    exact ht hb.2
  have hkeep : ∀ (k : Nat) (cs : Array Value) (t : TypeId), w'.heap[k]? = some (.cells cs t (0, 0)) → t ≠ 110 → (w'.setCell ⟨gw, 0, none⟩ b').heap[k]? = some (.cells cs t (0, 0)) := fun k cs t hk ht =>
    (hs.block k (lt_of_heap hk) (by simpa using hdiff k cs t hk ht)).trans hk
  refine ⟨⟨?_, hkeep _ _ _ (hne _ _ _ h.var (by decide)) (by decide), hkeep _ _ _ (hne _ _ _ h.two (by decide)) (by decide), hkeep _ _ _ (hne _ _ _ h.four (by decide)) (by decide), own_keep hrow fun g cs hg => hkeep g cs _ hg (by decide), h.le⟩, ?_⟩
  · rw [heap_setCell_at hb]; rfl
  · exact hf.trans (FrW.of_fr hs fun k hk => by
      simp only [List.mem_singleton] at hk
      subst hk
      exact ⟨h.le, fun _ => ⟨_, _, _, hb, .inr rfl⟩⟩)
theorem wide_any (n : Int) (p : Value) (w : World) : Calls Tryd.prog 93 #[.int .i64 n, p] w fun e w' => e = .returned (.func (.func 94) #[] #[.pointer (some ⟨w.heap.size, 0, none⟩), p]) ∧ w' = w.alloc (.cells #[.int .i64 n] 3) := by
  go_enter Tryd.func93, Tryd.ntmps93
  go_wp2_with fail
  go_ret
  exact ⟨rfl, rfl⟩
def NewPost (w : World) (e : Ending) (w' : World) : Prop := ∃ gw gv g2 g4, e = .returned (.pointer (some ⟨gw, 0, none⟩)) ∧ Wr w' w.heap.size gw gv g2 g4 (.slice none 0 0) [] ∧ Below w.heap.size w w'
set_option maxHeartbeats 1000000 in
theorem writer_any (w : World) : Calls Tryd.prog 71 #[] w (NewPost w) := by
  go_enter Tryd.func71, Tryd.ntmps71
  go_wp2_with fail
  obtain ⟨W, hW⟩ : ∃ W, W = (w.alloc (.cells #[.slice none 0 0, .nilFunc, .nilFunc] 110)).alloc (.cells #[.pointer (some ⟨w.heap.size, 0, none⟩)] 106) := ⟨_, rfl⟩
  have b1 : W.heap[w.heap.size]? = some (.cells #[.slice none 0 0, .nilFunc, .nilFunc] 110 (0, 0)) := by rw [hW, Below.heap_alloc _ _ _ (by simp), heap_alloc_new]
  have b2 : W.heap[w.heap.size + 1]? = some (.cells #[.pointer (some ⟨w.heap.size, 0, none⟩)] 106 (0, 0)) := by rw [hW]; have := heap_alloc_new (w.alloc (.cells #[.slice none 0 0, .nilFunc, .nilFunc] 110)) (.cells #[.pointer (some ⟨w.heap.size, 0, none⟩)] 106); simpa using this
  have hb : Below w.heap.size w W := by rw [hW]; exact ((Below.refl _ _).alloc (Nat.le_refl _) _).alloc (by simp) _
  rw [← hW]
  have hsz := hb.size
  generalize hgw : w.heap.size = gw at *
  have c2 : W.cell? ⟨gw + 1, 0, none⟩ = some (.pointer (some ⟨gw, 0, none⟩)) := (blk_cells b2).1 0
  have Hb := Lib.hid hb
  have B1 := Lib.hid b1
  have B2 := Lib.hid b2
  clear b1 b2 hb hW
  with_reducible refine g_mix [(0, none), (1, none), (2, none), (4, none), (3, some false), (5, some false), (6, none), (7, none), (8, some false), (9, none), (10, none), (11, some true)] (fun w' => w'.cell? ⟨gw + 1, 0, none⟩ = some (.pointer (some ⟨gw, 0, none⟩)) ∧ True) (by kernel_rfl) (by kernel_rfl) ?_
  intro OPS
  simp only [mixOf, nthO, consO]
  iterate 4 ((with_reducible refine m_val (v := ?_) ?_ ?_ ?_); rotate_left; (rintro _ ⟨h1, _⟩; go_simp; first | done | rfl | (constructor <;> rfl)); exact ⟨c2, trivial⟩)
  with_reducible refine m_one ?_
  refine l_call ?_ ((wide_any 2 (.pointer (some ⟨gw + 1, 0, none⟩)) _).mono ?_)
  · go_simp
  rintro e w2 ⟨rfl, hw2⟩
  have hb2 : Below W.heap.size W w2 := by rw [hw2]; exact ⟨rfl, rfl, rfl, by simp, fun k hk => Below.heap_alloc _ _ _ hk⟩
  have n2 : w2.heap[W.heap.size]? = some (.cells #[.int .i64 2] 3 (0, 0)) := by rw [hw2]; exact heap_alloc_new W.drew _
  have hs2 : w2.heap.size = W.heap.size + 1 := by rw [hw2]; simp
  refine ⟨_, rfl, ?_⟩
  refine m_keep ⟨Cells.of_below hb2 _ _ c2, trivial⟩ ?_
  with_reducible refine m_one ?_
  refine l_call ?_ ((wide_any 4 (.pointer (some ⟨gw + 1, 0, none⟩)) _).mono ?_)
  · go_simp
  rintro e w3 ⟨rfl, hw3⟩
  have hb3 : Below w2.heap.size w2 w3 := by rw [hw3]; exact ⟨rfl, rfl, rfl, by simp, fun k hk => Below.heap_alloc _ _ _ hk⟩
  have n3 : w3.heap[w2.heap.size]? = some (.cells #[.int .i64 4] 3 (0, 0)) := by rw [hw3]; exact heap_alloc_new w2 _
  have n2' : w3.heap[W.heap.size]? = some (.cells #[.int .i64 2] 3 (0, 0)) := (hb3.block _ (by omega)).trans n2
  have hbW : Below W.heap.size W w3 := hb2.trans (hb3.mono hb2.size)
  refine ⟨_, rfl, ?_⟩
  refine m_keep ⟨Cells.of_below hbW _ _ c2, trivial⟩ ?_
  rw [hs2] at n3 ⊢
  have e1 := (hbW.block _ (lt_of_heap B1.out)).trans B1.out
  have e2 := (hbW.block _ (lt_of_heap B2.out)).trans B2.out
  have hgs := lt_of_heap B2.out
  have hb := Hb.out.trans (hbW.mono hsz)
  have c3 := blk_cells e1
  have c4 := c3.1 1
  have c5 := c3.2.1 1
  iterate 2 ((with_reducible refine m_val (v := ?_) ?_ ?_ ?_); rotate_left; (rintro _ ⟨h1, _⟩; go_simp; first | done | rfl | (constructor <;> rfl)); exact ⟨Cells.of_below hbW _ _ c2, trivial⟩)
  clear hw2 hw3 hb2 hb3 n2 c2 c3 hbW hs2
  with_reducible refine m_one ?_
  with_reducible refine l_skip (w' := w3.setCell ⟨gw, 1, none⟩ (FW W.heap.size (gw + 1))) ?_ ?_
  · unfold FW; go_simp
  have f1 := heap_setCell_at e1 1 (FW W.heap.size (gw + 1))
  have hs1 : Fr [gw] w3 (w3.setCell ⟨gw, 1, none⟩ (FW W.heap.size (gw + 1))) := Fr.setCell _ _ _ _ (by simp)
  have f2 := (hs1.block _ (lt_of_heap e2) (by simp)).trans e2
  have f3 := (hs1.block _ (lt_of_heap n2') (by simp; omega)).trans n2'
  have f4 := (hs1.block _ (lt_of_heap n3) (by simp; omega)).trans n3
  generalize w3.setCell ⟨gw, 1, none⟩ (FW W.heap.size (gw + 1)) = w4 at *
  have c6 := (blk_cells f1).1 2
  have c7 := (blk_cells f1).2.1 2
  have c9 : w4.cell? ⟨gw + 1, 0, none⟩ = some (.pointer (some ⟨gw, 0, none⟩)) := (blk_cells f2).1 0
  refine m_keep ⟨c9, trivial⟩ ?_
  iterate 2 ((with_reducible refine m_val (v := ?_) ?_ ?_ ?_); rotate_left; (rintro _ ⟨h1, _⟩; go_simp; first | done | rfl | (constructor <;> rfl)); exact ⟨c9, trivial⟩)
  with_reducible refine m_one ?_
  with_reducible refine l_skip (w' := w4.setCell ⟨gw, 2, none⟩ (FW (W.heap.size + 1) (gw + 1))) ?_ ?_
  · unfold FW; go_simp
  have g1 := heap_setCell_at f1 2 (FW (W.heap.size + 1) (gw + 1))
  have hs2 : Fr [gw] w4 (w4.setCell ⟨gw, 2, none⟩ (FW (W.heap.size + 1) (gw + 1))) := Fr.setCell _ _ _ _ (by simp)
  have g2 := (hs2.block _ (lt_of_heap f2) (by simp)).trans f2
  have g3 := (hs2.block _ (lt_of_heap f3) (by simp; omega)).trans f3
  have g4 := (hs2.block _ (lt_of_heap f4) (by simp; omega)).trans f4
  generalize w4.setCell ⟨gw, 2, none⟩ (FW (W.heap.size + 1) (gw + 1)) = w5 at *
  refine m_last ?_
  with_reducible refine m_end ?_
  simp only [Act.put, List.setIfInBounds_toArray, List.set_cons_zero, List.set_cons_succ]
  have c8 := (blk_cells g2).1 0
  have Hfin : Hid (NewPost w (.returned (.pointer (some ⟨gw, 0, none⟩))) w5) := Lib.hid ⟨gw, gw + 1, W.heap.size, W.heap.size + 1, rfl, ⟨g1, g2, g3, g4, World.ownsRow_nil _ _ _ _, by omega⟩, by rw [hgw]; exact hb.trans ((hs1.below (by have := hb.size; omega) (by simp)).trans (hs2.below (by have := hb.size; have := hs1.size; omega) (by simp)))⟩
  clear c9 e1 e2 n2' n3 f1 f2 f3 f4 g1 g2 g3 g4 c4 c5 c6 c7 hs1 hs2 hb
  go_wp2_with fail
  go_ret
  exact Hfin.out
end Go.Proofs.YtdmladdpbdcpjaaDoor
namespace Go.Proofs.YtdmladdpbdcpjaaDoor
open Go.RowKit

set_option linter.unusedSimpArgs false

attribute [local go_sem] lt1 lt2 lt3 lt4 lt5 lt6

/-- a number in k bytes, the low one first -/
def leB (k n : Nat) : List UInt8 := (List.range k).map fun i => UInt8.ofNat (n / 2 ^ (8 * i))
def lesB (k : Nat) (l : List Nat) : List UInt8 := l.flatMap (leB k)
theorem leB_length (k n : Nat) : (leB k n).length = k := by simp [leB]
theorem lesB_length (k : Nat) (l : List Nat) : (lesB k l).length = l.length * k := by
  induction l with
  | nil => simp [lesB]
  | cons n l ih =>
    unfold lesB at ih ⊢
    rw [List.flatMap_cons, List.length_append, leB_length, ih, List.length_cons, Nat.add_mul]
    omega
theorem lesB_take {k : Nat} {l : List Nat} {i : Nat} (h : i < l.length) : lesB k (l.take (i + 1)) = lesB k (l.take i) ++ leB k (l.getD i 0) := by
  unfold lesB
  rw [List.take_succ_eq_append_getElem h, List.flatMap_append]
  simp [List.getD_eq_getElem?_getD, h]
theorem leB_take {k n j : Nat} (h : j < k) : (leB k n).take (j + 1) = (leB k n).take j ++ [UInt8.ofNat (n / 2 ^ (8 * j))] := by
  rw [List.take_succ_eq_append_getElem (by rw [leB_length]; exact h)]
  simp [leB]
theorem le_int (n j : Nat) : (n : Int) / 2 ^ (8 * j) % 256 = (((UInt8.ofNat (n / 2 ^ (8 * j))).toNat : Nat) : Int) := by
  rw [UInt8.toNat_ofNat', Int.natCast_emod, Int.natCast_ediv, Int.natCast_pow]
  rfl
def ints (l : List Nat) : List Value := l.map fun n => .int .i64 (n : Nat)
theorem ints_at {l : List Nat} {j : Nat} (h : j < l.length) : (ints l)[j]? = some (.int .i64 (l.getD j 0 : Nat)) := by
  unfold ints
  rw [List.getElem?_map, List.getD_eq_getElem?_getD, List.getElem?_eq_getElem h]
  rfl
/-- a writer that holds the bytes B, wherever they lie -/
def Wx (w : World) (base gw gv g2 g4 : Nat) (B : List UInt8) : Prop := ∃ b, Wr w base gw gv g2 g4 b B
theorem Wx.below {w w' : World} {base gw gv g2 g4 : Nat} {B : List UInt8} (h : Wx w base gw gv g2 g4 B) (hb : Below w.heap.size w w') : Wx w' base gw gv g2 g4 B := by
  obtain ⟨b, h⟩ := h
  exact ⟨b, h.below hb⟩
theorem Wr.kept {w w' : World} {base gw gv g2 g4 : Nat} {b : Value} {B : List UInt8} (h : Wr w base gw gv g2 g4 b B) (hg : w.grownBy w' b.ownBlock) :
    w'.heap[gw]? = some (.cells #[b, FW g2 gv, FW g4 gv] 110 (0, 0)) ∧ w'.heap[gv]? = some (.cells #[.pointer (some ⟨gw, 0, none⟩)] 106 (0, 0)) := by
  have hne : ∀ (k : Nat) (cs : Array Value) (t : TypeId), w.heap[k]? = some (.cells cs t (0, 0)) → t ≠ 5 → w'.heap[k]? = some (.cells cs t (0, 0)) := fun k cs t hk ht => by
    refine (hg.block k (lt_of_heap hk) fun e => ?_).trans hk
    obtain ⟨_, cur, hc⟩ := own_blk h.row k e.symm
    rw [hk] at hc
    simp at hc
    exact ht hc.2
  exact ⟨hne _ _ _ h.blk (by decide), hne _ _ _ h.var (by decide)⟩
set_option maxRecDepth 100000 in
set_option maxHeartbeats 1000000 in
theorem mark_any (w : World) (base gw gv g2 g4 : Nat) (B : List UInt8) (h : Wx w base gw gv g2 g4 B) (s : ByteArray) (hs : B.length + s.size ≤ 4294967296) (hbase : base ≤ w.heap.size) :
    Calls Tryd.prog 72 #[.pointer (some ⟨gw, 0, none⟩), .string s] w fun e w' => e = .returned (.tuple #[]) ∧ Wx w' base gw gv g2 g4 (B ++ toL s) ∧ FrW base w w' := by
  obtain ⟨i0, hi0, hz0, hz1, hz2⟩ := info_parts infoU8
  obtain ⟨b, h⟩ := h
  obtain ⟨Ab, cb, rfl, _, _, _, _⟩ := own_form h.row
  have c1 := (blk_cells h.blk).1 0
  have H := Lib.hid h
  clear h
  go_enter Tryd.func72, Tryd.ntmps72
  go_wp2_with (first | (at_builtin; refine Lib.wpList_append_own_string _ rfl _ _ 28 9 rfl base 5 i0 Tryd.underlying28 Tryd.underlying9 hi0 hz0 hz1 hz2 (.slice Ab B.length cb) B.length (u8s B) rfl H.out.row s rfl (by unfold maxLen; omega) (by omega) hbase ?_))
  intro b' w1 hown hgrow hq
  clear hq
  have hrow : w1.ownsRow base 5 1 b' (B ++ toL s).length (u8s (B ++ toL s)) := by
    rw [List.length_append, toL_len, show u8s (B ++ toL s) = u8s B ++ u8s (toL s) by simp [u8s]]
    have := hown
    rw [show Lib.strCells s = u8s (toL s) by simp [Lib.strCells, u8s, toL]] at this
    exact this
  obtain ⟨N, hN⟩ : ∃ N, N = (B ++ toL s).length := ⟨_, rfl⟩
  have hrow' := hrow
  rw [← hN] at hrow'
  obtain ⟨Ab', cb', rfl, _, _, _, _⟩ := own_form hrow'
  obtain ⟨k1, k2⟩ := H.out.laid hgrow hrow
  clear hrow' hN
  have K1 := Lib.hid k1
  have K2 := Lib.hid k2
  have hblk := (H.out.kept hgrow).1
  have d1 : w1.cell? ⟨gw, 0, none⟩ = some (.slice Ab B.length cb) := (blk_cells hblk).1 0
  have d2 : w1.frozen? ⟨gw, 0, none⟩ = false := (blk_cells hblk).2.1 0
  clear hown hgrow hrow k1 k2 hblk c1
  go_wp2_with fail
  go_end0
  exact ⟨rfl, ⟨_, K1.out⟩, K2.out⟩
def PutIn (w : World) (base gw gv g2 g4 : Nat) (B X : List UInt8) (k : Nat) (jv : Value) (wr : World) : Prop := ∃ j, j ≤ k ∧ jv = .int .i64 (j : Nat) ∧ Wx wr base gw gv g2 g4 (B ++ X.take j) ∧ FrW base w wr
def PutRel (w : World) (base gw gv g2 g4 : Nat) (B : List UInt8) (k : Nat) (l : List Nat) (iv : Value) (wr : World) : Prop := ∃ i, i ≤ l.length ∧ iv = .int .i64 (i : Nat) ∧ Wx wr base gw gv g2 g4 (B ++ lesB k (l.take i)) ∧ FrW base w wr
def PutPost (w : World) (base gw gv g2 g4 : Nat) (B : List UInt8) (e : Ending) (w' : World) : Prop := e = .returned (.tuple #[]) ∧ Wx w' base gw gv g2 g4 B ∧ FrW base w w'
set_option maxHeartbeats 2000000 in
set_option maxRecDepth 100000 in
theorem put_any (w : World) (base gw gv g2 g4 : Nat) (B : List UInt8) (h : Wx w base gw gv g2 g4 B) (gk k : Nat) (hk : w.heap[gk]? = some (.cells #[.int .i64 (k : Nat)] 3 (0, 0))) (hk8 : k ≤ 8) (gl c : Nat) (l : List Nat)
    (hl : w.heap[gl]? = some (.cells (ints l).toArray 3 (0, 0))) (hn : ∀ n ∈ l, n < 4611686018427387904) (hs : B.length ≤ 4294967296) (hll : l.length ≤ 1048576) (hbase : base ≤ w.heap.size) :
    Calls Tryd.prog 94 #[.slice (some ⟨gl, 0, none⟩) l.length c, .pointer (some ⟨gk, 0, none⟩), .pointer (some ⟨gv, 0, none⟩)] w (PutPost w base gw gv g2 g4 (B ++ lesB k l)) := by
  obtain ⟨i0, hi0, hz0, hz1, hz2⟩ := info_parts infoU8
  have Hk := Lib.hid hk
  have Hl := Lib.hid hl
  have Hn := Lib.hid hn
  have H := Lib.hid h
  clear hk hl hn h
  go_enter Tryd.func94, Tryd.ntmps94
  go_wp2_with fail
  go_loopw [9] (fun iv wr => PutRel w base gw gv g2 g4 B k l iv wr) (fun iv _ => l.length - (intOf iv).toNat)
  case atStart => exact ⟨0, by omega, rfl, by simpa [lesB] using H.out, FrW.refl _ _⟩
  case round =>
    obtain ⟨i, hi, rfl, hw, hf⟩ := hrel
    have Hw := Lib.hid hw
    have Hf := Lib.hid hf
    have hsz := hf.size
    clear hw hf
    have hir : (0 : Int) ≤ i := by omega
    by_cases hlt : i < l.length
    · have hlI : (i : Int) < l.length := by omega
      have c1 : wr.cell? ⟨gl, i, none⟩ = some (.int .i64 (l.getD i 0 : Nat)) := ((blk_cells (Hf.out.other Hl.out not_w_int)).1 i).trans (by rw [List.getElem?_toArray]; exact ints_at hlt)
      have c2 : wr.cell? ⟨gk, 0, none⟩ = some (.int .i64 (k : Nat)) := (blk_cells (Hf.out.other Hk.out not_w_int)).1 0
      have hnl := Hn.out (l.getD i 0) (by rw [List.getD_eq_getElem?_getD, List.getElem?_eq_getElem hlt]; exact List.getElem_mem _)
      have Hst := Lib.hid (lesB_take (k := k) hlt)
      have hBl : (B ++ lesB k (l.take i)).length ≤ 4294967296 + 8388608 := by
        rw [List.length_append, lesB_length, List.length_take]
        have : min i l.length * k ≤ 1048576 * 8 := Nat.mul_le_mul (by omega) hk8
        omega
      generalize l.getD i 0 = n at *
      obtain ⟨B1, hB1⟩ : ∃ B1, B1 = B ++ lesB k (l.take i) := ⟨_, rfl⟩
      rw [← hB1] at Hw hBl
      have HB1 := Lib.hid hB1
      clear hB1
      go_wp2_with fail
      have Hin : Hid (PutIn w base gw gv g2 g4 B1 (leB k n) k (.int .i64 0) wr) := Lib.hid ⟨0, by omega, rfl, by simpa using Hw.out, Hf.out⟩
      clear c1 c2
      go_loopw [14] (fun jv wr => PutIn w base gw gv g2 g4 B1 (leB k n) k jv wr) (fun jv _ => k - (intOf jv).toNat)
      case atStart => exact Hin.out
      case round =>
        obtain ⟨j, hj, rfl, ⟨b, hw⟩, hf⟩ := hrel
        have hsz := hf.size
        have hjr : (0 : Int) ≤ j := by omega
        obtain ⟨X, hX⟩ : ∃ X, X = B1 ++ (leB k n).take j := ⟨_, rfl⟩
        rw [← hX] at hw
        obtain ⟨Ab, cb, rfl, _, _, _, _⟩ := own_form hw.row
        by_cases hlj : j < k
        · have hjI : (j : Int) < k := by omega
          have s1 : (0 : Int) ≤ 8 * (j : Int) := by omega
          have s2 : 8 * (j : Int) ≤ 56 := by omega
          have s4 : IntKind.i64.wrap (8 * (j : Int)) = 8 * j := by rw [IntKind.wrap_i64]; omega
          have s3 : (8 * (j : Int)).toNat = 8 * j := by omega
          have c1 : wr.cell? ⟨gv, 0, none⟩ = some (.pointer (some ⟨gw, 0, none⟩)) := (blk_cells hw.var).1 0
          have c2 : wr.cell? ⟨gw, 0, none⟩ = some (.slice Ab X.length cb) := (blk_cells hw.blk).1 0
          have HW := Lib.hid hw
          have HF := Lib.hid hf
          have Hnx : Hid (B1 ++ (leB k n).take (j + 1) = (B1 ++ (leB k n).take j) ++ [UInt8.ofNat (n / 2 ^ (8 * j))]) := Lib.hid (by rw [leB_take hlj, List.append_assoc])
          have hXl : (B1 ++ (leB k n).take j).length ≤ 4294967296 + 8388608 + 8 := by rw [List.length_append, List.length_take, leB_length]; omega
          rw [← hX] at Hnx hXl
          have C1 := Lib.hid c1
          have C2 := Lib.hid c2
          clear hw hf Hin hX c1 c2
          go_wp2_with fail
          with_reducible refine g_mix [(0, none), (1, none), (2, none), (3, none), (4, none), (5, none), (6, none), (7, none), (8, none), (9, none), (10, some false), (11, some false), (12, none), (13, none), (14, some true)] (fun w' => w'.cell? ⟨gv, 0, none⟩ = some (.pointer (some ⟨gw, 0, none⟩)) ∧ w'.cell? ⟨gw, 0, none⟩ = some (.slice Ab X.length cb)) (by kernel_rfl) (by kernel_rfl) ?_
          intro OPS
          simp only [mixOf, nthO, consO]
          iterate 10 ((with_reducible refine m_val (v := ?_) ?_ ?_ ?_); rotate_left; (rintro _ ⟨h1, h2⟩; (try simp only [s4]); go_simp; first | done | rfl | (constructor <;> rfl)); exact ⟨C1.out, C2.out⟩)
          with_reducible refine m_one ?_
          iterate 1 (with_reducible refine l_val (v := ?_) (w' := ?_) ?_ ?_; rotate_left 2; (go_simp; first | done | rfl | (constructor <;> rfl)))
          refine m_keep ⟨Cells.alloc _ _ _ _ C1.out, Cells.alloc _ _ _ _ C2.out⟩ ?_
          with_reducible refine m_one ?_
          refine wpList_append_own _ rfl (.tmp 21) (.tmp 27) 28 rfl base 5 i0 (.int .u8 0) 1 1 Tryd.underlying28 hi0 hz0 hz1 hz2 rfl (by omega) (.slice Ab X.length cb) X.length (u8s X) ?_ (World.ownsRow.alloc (w := wr.drew) HW.out.row _) ⟨wr.heap.size, 0, none⟩ 1 1 [.int .u8 ((n : Int) / 2 ^ (8 * j) % 256)] ?_ rfl (fun j v hv => World.news_of_block (w := wr.drew.alloc _) (heap_alloc_new wr.drew _) j v hv) (one_cell _) (by unfold maxLen; omega) (by omega) (by simp; omega) ?_
          · simp [Act.eval, Act.put]
          · simp [Act.eval, Act.put]
          intro b' w1 hown hgrow hq
          clear hq
          obtain ⟨ob, hgrow⟩ : ∃ ob, (wr.drew.alloc ob).grownBy w1 (Value.slice Ab X.length cb).ownBlock := ⟨_, hgrow⟩
          have hWa : Wr (wr.drew.alloc ob) base gw gv g2 g4 (.slice Ab X.length cb) X := (HW.out.drewN 1).below ((Below.refl _ _).alloc (Nat.le_refl _) _)
          have hFa : FrW base wr (wr.drew.alloc ob) := (FrW.drewN base wr 1).trans (FrW.of_below ((Below.refl _ _).alloc (Nat.le_refl _) _))
          have hrow : w1.ownsRow base 5 1 b' (X ++ [UInt8.ofNat (n / 2 ^ (8 * j))]).length (u8s (X ++ [UInt8.ofNat (n / 2 ^ (8 * j))])) := by
            rw [List.length_append, show u8s (X ++ [UInt8.ofNat (n / 2 ^ (8 * j))]) = u8s X ++ u8s [UInt8.ofNat (n / 2 ^ (8 * j))] by simp [u8s]]
            have := hown
            rw [le_int] at this
            exact this
          obtain ⟨N, hN⟩ : ∃ N, N = (X ++ [UInt8.ofNat (n / 2 ^ (8 * j))]).length := ⟨_, rfl⟩
          have hrow' := hrow
          rw [← hN] at hrow'
          obtain ⟨Ab', cb', rfl, _, _, _, _⟩ := own_form hrow'
          obtain ⟨k1, k2⟩ := hWa.laid hgrow hrow
          clear hrow' hN
          obtain ⟨b1, b2⟩ := hWa.kept hgrow
          have d1 : w1.cell? ⟨gw, 0, none⟩ = some (.slice Ab X.length cb) := (blk_cells b1).1 0
          have d2 : w1.frozen? ⟨gw, 0, none⟩ = false := (blk_cells b1).2.1 0
          have d3 : w1.cell? ⟨gv, 0, none⟩ = some (.pointer (some ⟨gw, 0, none⟩)) := (blk_cells b2).1 0
          rw [← Hnx.out] at k1
          have K1 := Lib.hid k1
          have K2 := Lib.hid (HF.out.trans (hFa.trans k2))
          clear hWa hFa hrow k1 k2 b1 b2 hown hgrow Hnx HF HW
          refine m_keep ⟨d3, d1⟩ ?_
          iterate 2 ((with_reducible refine m_val (v := ?_) ?_ ?_ ?_); rotate_left; (rintro _ ⟨h1, h2⟩; go_simp; first | done | rfl | (constructor <;> rfl)); exact ⟨d3, d1⟩)
          with_reducible refine m_one ?_
          with_reducible refine l_skip (w' := w1.setCell ⟨gw, 0, none⟩ (.slice Ab' N cb')) ?_ ?_
          · go_simp
          with_reducible refine m_last ?_
          with_reducible refine m_end ?_
          clear d1 d2 d3 C1 C2
          simp only [Act.put, List.setIfInBounds_toArray, List.set_cons_zero, List.set_cons_succ]
          go_wp2_with fail
          exact ⟨⟨j + 1, by omega, by simp, ⟨_, K1.out⟩, K2.out⟩, by simp only [intOf]; omega⟩
        · have hjI : ¬ (j : Int) < k := by omega
          obtain rfl : j = k := by omega
          have hX' : X = B1 ++ leB j n := by rw [hX, List.take_of_length_le (by rw [leB_length]; exact Nat.le_refl _)]
          have HW := Lib.hid hw
          have HF := Lib.hid hf
          have HX := Lib.hid hX'
          clear hw hf Hin hX hX'
          go_wp2_with fail
          refine ⟨⟨i + 1, by omega, by simp, ⟨.slice Ab X.length cb, ?_⟩, HF.out⟩, by simp only [intOf]; omega⟩
          rw [show B ++ lesB j (l.take (i + 1)) = X by rw [HX.out, HB1.out, List.append_assoc, ← Hst.out]]
          exact HW.out
    · have hlI : ¬ (i : Int) < l.length := by omega
      obtain rfl : i = l.length := by omega
      go_wp2_with fail
      go_end0
      refine ⟨rfl, ?_, Hf.out⟩
      have := Hw.out
      rwa [List.take_of_length_le (Nat.le_refl _)] at this
end Go.Proofs.YtdmladdpbdcpjaaDoor
