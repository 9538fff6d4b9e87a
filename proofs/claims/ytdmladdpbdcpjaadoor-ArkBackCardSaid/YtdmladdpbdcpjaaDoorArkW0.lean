/-
  The writer of the package: how it lies in memory, its functions. (Printed by wip/abexp.py.)
-/
import Derived.Test.YtdmladdpbdcpjaaDoorArkFiles
import Derived.Test.YtdmladdpbdcpjaaDoorArkAbs
import Derived.Lib.AppendStr
import Derived.Laws.EntriesVeiled
namespace Go.Proofs.YtdmladdpbdcpjaaDoor
open Go.RowKit

set_option linter.unusedSimpArgs false

attribute [local go_sem] lt1 lt2 lt3 lt4 lt5 lt6

/-! ### what the writer's steps may turn -/
def WTy (t : TypeId) : Prop := t = 5 ∨ t = 110
def WBlk (w : World) (k : Nat) : Prop := ∃ cs t fr, w.heap[k]? = some (.cells cs t fr) ∧ WTy t
/-- only rows of bytes and writers, made behind 'base', may have turned -/
structure FrW (base : Nat) (w w' : World) : Prop where
  os : w'.os = w.os
  tape : w'.tape = w.tape
  output : w'.output = w.output
  size : w.heap.size ≤ w'.heap.size
  block : ∀ k, k < w.heap.size → (k < base ∨ ¬ WBlk w k) → w'.heap[k]? = w.heap[k]?
theorem FrW.refl (base : Nat) (w : World) : FrW base w w := ⟨rfl, rfl, rfl, Nat.le_refl _, fun _ _ _ => rfl⟩
theorem FrW.trans {base : Nat} {a b c : World} (h : FrW base a b) (k : FrW base b c) : FrW base a c :=
  ⟨k.os.trans h.os, k.tape.trans h.tape, k.output.trans h.output, Nat.le_trans h.size k.size, fun i hi hn => by
    have e := h.block i hi hn
    refine (k.block i (Nat.lt_of_lt_of_le hi h.size) (hn.imp id fun hh hr => hh ?_)).trans e
    obtain ⟨cs, t, fr, h1, h2⟩ := hr
    exact ⟨cs, t, fr, e.symm.trans h1, h2⟩⟩
theorem FrW.of_below {base : Nat} {w w' : World} (h : Below w.heap.size w w') : FrW base w w' := ⟨h.os, h.tape, h.output, h.size, fun k hk _ => h.block k hk⟩
theorem FrW.below {base : Nat} {w w' : World} (h : FrW base w w') (hb : base ≤ w.heap.size) : Below base w w' := ⟨h.os, h.tape, h.output, h.size, fun k hk => h.block k (by omega) (.inl hk)⟩
theorem FrW.drewN (base : Nat) (w : World) (n : Nat) : FrW base w (w.drewN n) := ⟨rfl, rfl, rfl, Nat.le_refl _, fun _ _ _ => rfl⟩
theorem FrW.of_fr {base : Nat} {S : List Nat} {w w' : World} (h : Fr S w w') (hS : ∀ k, k ∈ S → base ≤ k ∧ (k < w.heap.size → WBlk w k)) : FrW base w w' :=
  ⟨h.os, h.tape, h.output, h.size, fun k hk hn => h.block k hk fun hh => by
    obtain ⟨h1, h2⟩ := hS k hh
    rcases hn with hn | hn
    · omega
    · exact hn (h2 hk)⟩
/-- a block of another kind is as it was -/
theorem FrW.other {base : Nat} {w w' : World} (h : FrW base w w') {k : Nat} {cs : Array Value} {t : TypeId} {fr : Nat × Nat} (hk : w.heap[k]? = some (.cells cs t fr)) (ht : ¬ WTy t) : w'.heap[k]? = some (.cells cs t fr) :=
  (h.block k (lt_of_heap hk) (.inr fun ⟨cs', t', fr', h1, h2⟩ => by rw [hk] at h1; cases h1; exact ht h2)).trans hk
theorem not_w_int : ¬ WTy 3 := by unfold WTy; decide
theorem not_w_ptr : ¬ WTy 106 := by unfold WTy; decide
theorem not_w_file : ¬ WTy 46 := by unfold WTy; decide
theorem FrW.of_grown {base : Nat} {w w' : World} {v : Value} {n : Nat} {xs : List Value} (hown : w.ownsRow base 5 1 v n xs) (h : w.grownBy w' v.ownBlock) : FrW base w w' :=
  FrW.of_fr (Fr.of_grown h) fun k hk => by
    simp only [Option.mem_toList] at hk
    obtain ⟨h1, cur, h2⟩ := own_blk hown k hk
    exact ⟨h1, fun _ => ⟨cur, _, _, h2, .inl rfl⟩⟩
/-! ### the writer -/
def FW (g gv : Nat) : Value := .func (.func 94) #[] #[.pointer (some ⟨g, 0, none⟩), .pointer (some ⟨gv, 0, none⟩)]
/-- a writer that holds the bytes B -/
structure Wr (w : World) (base gw gv g2 g4 : Nat) (b : Value) (B : List UInt8) : Prop where
  blk : w.heap[gw]? = some (.cells #[b, FW g2 gv, FW g4 gv] 110 (0, 0))
  var : w.heap[gv]? = some (.cells #[.pointer (some ⟨gw, 0, none⟩)] 106 (0, 0))
  two : w.heap[g2]? = some (.cells #[.int .i64 2] 3 (0, 0))
  four : w.heap[g4]? = some (.cells #[.int .i64 4] 3 (0, 0))
  row : w.ownsRow base 5 1 b B.length (u8s B)
  le : base ≤ gw
theorem Wr.below {w w' : World} {base gw gv g2 g4 : Nat} {b : Value} {B : List UInt8} (h : Wr w base gw gv g2 g4 b B) (hb : Below w.heap.size w w') : Wr w' base gw gv g2 g4 b B :=
  ⟨(hb.block _ (lt_of_heap h.blk)).trans h.blk, (hb.block _ (lt_of_heap h.var)).trans h.var, (hb.block _ (lt_of_heap h.two)).trans h.two, (hb.block _ (lt_of_heap h.four)).trans h.four, own_keep h.row fun g _ hg => (hb.block g (lt_of_heap hg)).trans hg, h.le⟩
theorem Wr.drewN {w : World} {base gw gv g2 g4 : Nat} {b : Value} {B : List UInt8} (h : Wr w base gw gv g2 g4 b B) (n : Nat) : Wr (w.drewN n) base gw gv g2 g4 b B := ⟨h.blk, h.var, h.two, h.four, h.row, h.le⟩
/-- bytes laid behind those that it holds: b grown, then stored -/
theorem Wr.laid {w w' : World} {base gw gv g2 g4 : Nat} {b b' : Value} {B B' : List UInt8} (h : Wr w base gw gv g2 g4 b B) (hg : w.grownBy w' b.ownBlock) (hrow : w'.ownsRow base 5 1 b' B'.length (u8s B')) :
    Wr (w'.setCell ⟨gw, 0, none⟩ b') base gw gv g2 g4 b' B' ∧ FrW base w (w'.setCell ⟨gw, 0, none⟩ b') := by
  have hf := FrW.of_grown h.row hg
  have hne : ∀ (k : Nat) (cs : Array Value) (t : TypeId), w.heap[k]? = some (.cells cs t (0, 0)) → t ≠ 5 → w'.heap[k]? = some (.cells cs t (0, 0)) := fun k cs t hk ht => by
    refine (hg.block k (lt_of_heap hk) fun e => ?_).trans hk
    obtain ⟨_, cur, hc⟩ := own_blk h.row k e.symm
    rw [hk] at hc
    simp at hc
    exact ht hc.2
  have hb := hne _ _ _ h.blk (by decide)
  have hs : Fr [gw] w' (w'.setCell ⟨gw, 0, none⟩ b') := Fr.setCell _ _ _ _ (by simp)
  have hdiff : ∀ (k : Nat) (cs : Array Value) (t : TypeId), w'.heap[k]? = some (.cells cs t (0, 0)) → t ≠ 110 → k ≠ gw := fun k cs t hk ht e => by
    subst e
    rw [hk] at hb
    simp at hb
    exact ht hb.2
  have hkeep : ∀ (k : Nat) (cs : Array Value) (t : TypeId), w'.heap[k]? = some (.cells cs t (0, 0)) → t ≠ 110 → (w'.setCell ⟨gw, 0, none⟩ b').heap[k]? = some (.cells cs t (0, 0)) := fun k cs t hk ht =>
    (hs.block k (lt_of_heap hk) (by simpa using hdiff k cs t hk ht)).trans hk
  refine ⟨⟨?_, hkeep _ _ _ (hne _ _ _ h.var (by decide)) (by decide), hkeep _ _ _ (hne _ _ _ h.two (by decide)) (by decide), hkeep _ _ _ (hne _ _ _ h.four (by decide)) (by decide), own_keep hrow fun g cs hg => hkeep g cs _ hg (by decide), h.le⟩, ?_⟩
  · rw [heap_setCell_at hb]; rfl
  · exact hf.trans (FrW.of_fr hs fun k hk => by
      simp only [List.mem_singleton] at hk
      subst hk
      exact ⟨h.le, fun _ => ⟨_, _, _, hb, .inr rfl⟩⟩)
theorem wide_any (n : Int) (p : Value) (w : World) : Calls Tryd.prog 93 #[.int .i64 n, p] w fun e w' => e = .returned (.func (.func 94) #[] #[.pointer (some ⟨w.heap.size, 0, none⟩), p]) ∧ w' = w.alloc (.cells #[.int .i64 n] 3) := by
  go_enter Tryd.func93, Tryd.ntmps93
  go_wp2_with fail
  go_ret
  exact ⟨rfl, rfl⟩
def NewPost (w : World) (e : Ending) (w' : World) : Prop := ∃ gw gv g2 g4, e = .returned (.pointer (some ⟨gw, 0, none⟩)) ∧ Wr w' w.heap.size gw gv g2 g4 (.slice none 0 0) [] ∧ Below w.heap.size w w'
set_option maxHeartbeats 1000000 in
theorem writer_any (w : World) : Calls Tryd.prog 71 #[] w (NewPost w) := by
  go_enter Tryd.func71, Tryd.ntmps71
  go_wp2_with fail
  obtain ⟨W, hW⟩ : ∃ W, W = (w.alloc (.cells #[.slice none 0 0, .nilFunc, .nilFunc] 110)).alloc (.cells #[.pointer (some ⟨w.heap.size, 0, none⟩)] 106) := ⟨_, rfl⟩
  have b1 : W.heap[w.heap.size]? = some (.cells #[.slice none 0 0, .nilFunc, .nilFunc] 110 (0, 0)) := by rw [hW, Below.heap_alloc _ _ _ (by simp), heap_alloc_new]
  have b2 : W.heap[w.heap.size + 1]? = some (.cells #[.pointer (some ⟨w.heap.size, 0, none⟩)] 106 (0, 0)) := by rw [hW]; have := heap_alloc_new (w.alloc (.cells #[.slice none 0 0, .nilFunc, .nilFunc] 110)) (.cells #[.pointer (some ⟨w.heap.size, 0, none⟩)] 106); simpa using this
  have hb : Below w.heap.size w W := by rw [hW]; exact ((Below.refl _ _).alloc (Nat.le_refl _) _).alloc (by simp) _
  rw [← hW]
  have hsz := hb.size
  generalize hgw : w.heap.size = gw at *
  have c2 : W.cell? ⟨gw + 1, 0, none⟩ = some (.pointer (some ⟨gw, 0, none⟩)) := (blk_cells b2).1 0
  have Hb := Lib.hid hb
  have B1 := Lib.hid b1
  have B2 := Lib.hid b2
  clear b1 b2 hb hW
  with_reducible refine g_mix [(0, none), (1, none), (2, none), (4, none), (3, some false), (5, some false), (6, none), (7, none), (8, some false), (9, none), (10, none), (11, some true)] (fun w' => w'.cell? ⟨gw + 1, 0, none⟩ = some (.pointer (some ⟨gw, 0, none⟩)) ∧ True) (by kernel_rfl) (by kernel_rfl) ?_
  intro OPS
  simp only [mixOf, nthO, consO]
  iterate 4 ((with_reducible refine m_val (v := ?_) ?_ ?_ ?_); rotate_left; (rintro _ ⟨h1, _⟩; go_simp; first | done | rfl | (constructor <;> rfl)); exact ⟨c2, trivial⟩)
  with_reducible refine m_one ?_
  refine l_call ?_ ((wide_any 2 (.pointer (some ⟨gw + 1, 0, none⟩)) _).mono ?_)
  · go_simp
  rintro e w2 ⟨rfl, hw2⟩
  have hb2 : Below W.heap.size W w2 := by rw [hw2]; exact ⟨rfl, rfl, rfl, by simp, fun k hk => Below.heap_alloc _ _ _ hk⟩
  have n2 : w2.heap[W.heap.size]? = some (.cells #[.int .i64 2] 3 (0, 0)) := by rw [hw2]; exact heap_alloc_new W.drew _
  have hs2 : w2.heap.size = W.heap.size + 1 := by rw [hw2]; simp
  refine ⟨_, rfl, ?_⟩
  refine m_keep ⟨Cells.of_below hb2 _ _ c2, trivial⟩ ?_
  with_reducible refine m_one ?_
  refine l_call ?_ ((wide_any 4 (.pointer (some ⟨gw + 1, 0, none⟩)) _).mono ?_)
  · go_simp
  rintro e w3 ⟨rfl, hw3⟩
  have hb3 : Below w2.heap.size w2 w3 := by rw [hw3]; exact ⟨rfl, rfl, rfl, by simp, fun k hk => Below.heap_alloc _ _ _ hk⟩
  have n3 : w3.heap[w2.heap.size]? = some (.cells #[.int .i64 4] 3 (0, 0)) := by rw [hw3]; exact heap_alloc_new w2 _
  have n2' : w3.heap[W.heap.size]? = some (.cells #[.int .i64 2] 3 (0, 0)) := (hb3.block _ (by omega)).trans n2
  have hbW : Below W.heap.size W w3 := hb2.trans (hb3.mono hb2.size)
  refine ⟨_, rfl, ?_⟩
  refine m_keep ⟨Cells.of_below hbW _ _ c2, trivial⟩ ?_
  rw [hs2] at n3 ⊢
  have e1 := (hbW.block _ (lt_of_heap B1.out)).trans B1.out
  have e2 := (hbW.block _ (lt_of_heap B2.out)).trans B2.out
  have hgs := lt_of_heap B2.out
  have hb := Hb.out.trans (hbW.mono hsz)
  have c3 := blk_cells e1
  have c4 := c3.1 1
  have c5 := c3.2.1 1
  iterate 2 ((with_reducible refine m_val (v := ?_) ?_ ?_ ?_); rotate_left; (rintro _ ⟨h1, _⟩; go_simp; first | done | rfl | (constructor <;> rfl)); exact ⟨Cells.of_below hbW _ _ c2, trivial⟩)
  clear hw2 hw3 hb2 hb3 n2 c2 c3 hbW hs2
  with_reducible refine m_one ?_
  with_reducible refine l_skip (w' := w3.setCell ⟨gw, 1, none⟩ (FW W.heap.size (gw + 1))) ?_ ?_
  · unfold FW; go_simp
  have f1 := heap_setCell_at e1 1 (FW W.heap.size (gw + 1))
  have hs1 : Fr [gw] w3 (w3.setCell ⟨gw, 1, none⟩ (FW W.heap.size (gw + 1))) := Fr.setCell _ _ _ _ (by simp)
  have f2 := (hs1.block _ (lt_of_heap e2) (by simp)).trans e2
  have f3 := (hs1.block _ (lt_of_heap n2') (by simp; omega)).trans n2'
  have f4 := (hs1.block _ (lt_of_heap n3) (by simp; omega)).trans n3
  generalize w3.setCell ⟨gw, 1, none⟩ (FW W.heap.size (gw + 1)) = w4 at *
  have c6 := (blk_cells f1).1 2
  have c7 := (blk_cells f1).2.1 2
  have c9 : w4.cell? ⟨gw + 1, 0, none⟩ = some (.pointer (some ⟨gw, 0, none⟩)) := (blk_cells f2).1 0
  refine m_keep ⟨c9, trivial⟩ ?_
  iterate 2 ((with_reducible refine m_val (v := ?_) ?_ ?_ ?_); rotate_left; (rintro _ ⟨h1, _⟩; go_simp; first | done | rfl | (constructor <;> rfl)); exact ⟨c9, trivial⟩)
  with_reducible refine m_one ?_
  with_reducible refine l_skip (w' := w4.setCell ⟨gw, 2, none⟩ (FW (W.heap.size + 1) (gw + 1))) ?_ ?_
  · unfold FW; go_simp
  have g1 := heap_setCell_at f1 2 (FW (W.heap.size + 1) (gw + 1))
  have hs2 : Fr [gw] w4 (w4.setCell ⟨gw, 2, none⟩ (FW (W.heap.size + 1) (gw + 1))) := Fr.setCell _ _ _ _ (by simp)
  have g2 := (hs2.block _ (lt_of_heap f2) (by simp)).trans f2
  have g3 := (hs2.block _ (lt_of_heap f3) (by simp; omega)).trans f3
  have g4 := (hs2.block _ (lt_of_heap f4) (by simp; omega)).trans f4
  generalize w4.setCell ⟨gw, 2, none⟩ (FW (W.heap.size + 1) (gw + 1)) = w5 at *
  refine m_last ?_
  with_reducible refine m_end ?_
  simp only [Act.put, List.setIfInBounds_toArray, List.set_cons_zero, List.set_cons_succ]
  have c8 := (blk_cells g2).1 0
  have Hfin : Hid (NewPost w (.returned (.pointer (some ⟨gw, 0, none⟩))) w5) := Lib.hid ⟨gw, gw + 1, W.heap.size, W.heap.size + 1, rfl, ⟨g1, g2, g3, g4, World.ownsRow_nil _ _ _ _, by omega⟩, by rw [hgw]; exact hb.trans ((hs1.below (by have := hb.size; omega) (by simp)).trans (hs2.below (by have := hb.size; have := hs1.size; omega) (by simp)))⟩
  clear c9 e1 e2 n2' n3 f1 f2 f3 f4 g1 g2 g3 g4 c4 c5 c6 c7 hs1 hs2 hb
  go_wp2_with fail
  go_ret
  exact Hfin.out
end Go.Proofs.YtdmladdpbdcpjaaDoor
