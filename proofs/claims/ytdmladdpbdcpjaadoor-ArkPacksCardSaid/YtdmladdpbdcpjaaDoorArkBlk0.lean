/-
  SHA-256 of the package: a block, its state.
-/
import Derived.Test.YtdmladdpbdcpjaaDoorArkSched
import Derived.RegionTactic
import Derived.Deep.RegionWith
import Derived.Deep.RegionHeld3
namespace Go.Proofs.YtdmladdpbdcpjaaDoor
open Go.RowKit

attribute [local go_sem] lt1 lt2 lt3 lt4 lt5 lt6

theorem zeroState (w : World) : (zeroValue 79).run Tryd.prog w = .ok (.agg (u32s (List.replicate 8 0)).toArray) w := by kernel_rfl
theorem infoState : (Tryd.prog.info? 79).map (·.size) = some 8 := by kernel_rfl
theorem xor_ones (a : Nat) (ha : a < 4294967296) : 4294967295 ^^^ a = 4294967295 - a := by
  have h : (BitVec.allOnes 32 ^^^ BitVec.ofNat 32 a) = ~~~ (BitVec.ofNat 32 a) := by rw [BitVec.allOnes_xor]
  have h2 := congrArg BitVec.toNat h
  rw [BitVec.toNat_xor, BitVec.toNat_not, BitVec.toNat_allOnes, BitVec.toNat_ofNat, Nat.mod_eq_of_lt (by omega)] at h2
  simpa using h2
theorem big1_int {a : Nat} (ha : a < 4294967296) : bits BinOp.xor IntKind.u32 (bits BinOp.xor IntKind.u32 ((rotr a 6 : Nat) : Int) ((rotr a 11 : Nat) : Int)) ((rotr a 25 : Nat) : Int) = ((big1 a : Nat) : Int) :=
  xor3_int (rotr_lt ha _) (rotr_lt ha _) (rotr_lt ha _)
theorem big0_int {a : Nat} (ha : a < 4294967296) : bits BinOp.xor IntKind.u32 (bits BinOp.xor IntKind.u32 ((rotr a 2 : Nat) : Int) ((rotr a 13 : Nat) : Int)) ((rotr a 22 : Nat) : Int) = ((big0 a : Nat) : Int) :=
  xor3_int (rotr_lt ha _) (rotr_lt ha _) (rotr_lt ha _)
theorem chose_int {e f g : Nat} (he : e < 4294967296) (hf : f < 4294967296) (hg : g < 4294967296) : bits BinOp.xor IntKind.u32 (bits BinOp.and IntKind.u32 (e : Int) (f : Int)) (bits BinOp.and IntKind.u32 (bits BinOp.xor IntKind.u32 IntKind.u32.max (e : Int)) (g : Int)) = ((chose e f g : Nat) : Int) := by
  rw [show IntKind.u32.max = ((4294967295 : Nat) : Int) from rfl, u32_xor_nat _ _ (by omega) he, u32_and_nat _ _ he hf, xor_ones e he, u32_and_nat _ _ (by omega) hg, u32_xor_nat _ _ (and_lt hf) (and_lt hg)]
  rfl
theorem most_int {a b c : Nat} (ha : a < 4294967296) (hb : b < 4294967296) (hc : c < 4294967296) : bits BinOp.xor IntKind.u32 (bits BinOp.xor IntKind.u32 (bits BinOp.and IntKind.u32 (a : Int) (b : Int)) (bits BinOp.and IntKind.u32 (a : Int) (c : Int))) (bits BinOp.and IntKind.u32 (b : Int) (c : Int)) = ((most a b c : Nat) : Int) := by
  rw [u32_and_nat _ _ ha hb, u32_and_nat _ _ ha hc, u32_and_nat _ _ hb hc]
  exact xor3_int (and_lt hb) (and_lt hc) (and_lt hc)
theorem add32_int (a b : Nat) : IntKind.u32.wrap ((a : Int) + (b : Int)) = ((add32 a b : Nat) : Int) := by
  rw [IntKind.wrap_u32']
  unfold add32
  omega
theorem heap_alloc2 (w : World) (o o' : Obj) : ((w.alloc o).alloc o').heap[w.heap.size + 1]? = some o' := by
  have h := heap_alloc_new (w.alloc o) o'
  rw [show (w.alloc o).heap.size = w.heap.size + 1 by simp] at h
  exact h
theorem eight {l : List Nat} (h : l.length = 8) : ∃ x0 x1 x2 x3 x4 x5 x6 x7, l = [x0, x1, x2, x3, x4, x5, x6, x7] := by
  match l, h with
  | [x0, x1, x2, x3, x4, x5, x6, x7], _ => exact ⟨_, _, _, _, _, _, _, _, rfl⟩
theorem u32s_at {l : List Nat} {k : Nat} (h : k < l.length) : (u32s l).toArray[k]? = some (.int .u32 (l.getD k 0 : Nat)) := by
  simp [u32s, List.getD_eq_getElem?_getD, List.getElem?_eq_getElem h]
/-- eight stores -/
def set8 (w : World) (g v0 v1 v2 v3 v4 v5 v6 v7 : Nat) : World :=
  (((((((w.setCell ⟨g, 0, none⟩ (.int .u32 (v0 : Nat))).setCell ⟨g, 1, none⟩ (.int .u32 (v1 : Nat))).setCell ⟨g, 2, none⟩ (.int .u32 (v2 : Nat))).setCell ⟨g, 3, none⟩ (.int .u32 (v3 : Nat))).setCell ⟨g, 4, none⟩ (.int .u32 (v4 : Nat))).setCell ⟨g, 5, none⟩ (.int .u32 (v5 : Nat))).setCell ⟨g, 6, none⟩ (.int .u32 (v6 : Nat))).setCell ⟨g, 7, none⟩ (.int .u32 (v7 : Nat))
theorem set8_fr (w : World) (g v0 v1 v2 v3 v4 v5 v6 v7 : Nat) : Fr [g] w (set8 w g v0 v1 v2 v3 v4 v5 v6 v7) :=
  (((((((Fr.setCell _ w _ _ (by simp)).trans (Fr.setCell _ _ _ _ (by simp))).trans (Fr.setCell _ _ _ _ (by simp))).trans (Fr.setCell _ _ _ _ (by simp))).trans (Fr.setCell _ _ _ _ (by simp))).trans (Fr.setCell _ _ _ _ (by simp))).trans (Fr.setCell _ _ _ _ (by simp))).trans (Fr.setCell _ _ _ _ (by simp))
theorem set8_at {w : World} {g x0 x1 x2 x3 x4 x5 x6 x7 : Nat} {t : TypeId} (h : w.heap[g]? = some (.cells (u32s [x0, x1, x2, x3, x4, x5, x6, x7]).toArray t (0, 0))) (v0 v1 v2 v3 v4 v5 v6 v7 : Nat) :
    (set8 w g v0 v1 v2 v3 v4 v5 v6 v7).heap[g]? = some (.cells (u32s [v0, v1, v2, v3, v4, v5, v6, v7]).toArray t (0, 0)) := by
  have h' : w.heap[g]? = some (.cells #[.int .u32 (x0 : Nat), .int .u32 (x1 : Nat), .int .u32 (x2 : Nat), .int .u32 (x3 : Nat), .int .u32 (x4 : Nat), .int .u32 (x5 : Nat), .int .u32 (x6 : Nat), .int .u32 (x7 : Nat)] t (0, 0)) := h
  have hc := heap_setCell_at (heap_setCell_at (heap_setCell_at (heap_setCell_at (heap_setCell_at (heap_setCell_at (heap_setCell_at (heap_setCell_at h' 0 (.int .u32 (v0 : Nat))) 1 (.int .u32 (v1 : Nat))) 2 (.int .u32 (v2 : Nat))) 3 (.int .u32 (v3 : Nat))) 4 (.int .u32 (v4 : Nat))) 5 (.int .u32 (v5 : Nat))) 6 (.int .u32 (v6 : Nat))) 7 (.int .u32 (v7 : Nat))
  refine hc.trans ?_
  simp [u32s]
/-- the state of the walk behind k rounds -/
def BlkRel (w : World) (g : Nat) (s : List Nat) (b : List UInt8) (x z V : Array Value) (iv : Value) (wr : World) : Prop :=
  ∃ (k : Nat), k ≤ 64 ∧ iv = .int .i64 k ∧ Below w.heap.size w wr ∧ wr.heap[w.heap.size]? = some (.cells x 79 (0, 0)) ∧ wr.heap[w.heap.size + 1]? = some (.cells z 79 (0, 0)) ∧ wr.heap[g]? = some (.cells V 76 (0, 0)) ∧
    wr.heap[g + 1]? = some (.cells (u32s (rounds (sched b 64) s k)).toArray 79 (0, 0))
def BlkPost (w : World) (s : List Nat) (b : List UInt8) (e : Ending) (w' : World) : Prop := e = .returned (.agg (u32s (compress s b)).toArray) ∧ Below w.heap.size w w'
theorem blk_step {w wr : World} {g : Nat} {s l : List Nat} {b : List UInt8} {x z V : Array Value} {k : Nat} (hB : Below w.heap.size w wr) (hb0 : wr.heap[w.heap.size]? = some (.cells x 79 (0, 0))) (hb1 : wr.heap[w.heap.size + 1]? = some (.cells z 79 (0, 0))) (hV : wr.heap[g]? = some (.cells V 76 (0, 0)))
    (hX : wr.heap[g + 1]? = some (.cells (u32s l).toArray 79 (0, 0))) (hl : l.length = 8) (hg : w.heap.size + 2 ≤ g) (v0 v1 v2 v3 v4 v5 v6 v7 : Nat) (hr : [v0, v1, v2, v3, v4, v5, v6, v7] = rounds (sched b 64) s (k + 1)) (hk : k < 64) :
    BlkRel w g s b x z V (.int .i64 ((k : Int) + 1)) (set8 wr (g + 1) v0 v1 v2 v3 v4 v5 v6 v7) := by
  obtain ⟨x0, x1, x2, x3, x4, x5, x6, x7, rfl⟩ := eight hl
  have hf := set8_fr wr (g + 1) v0 v1 v2 v3 v4 v5 v6 v7
  have hc := set8_at hX v0 v1 v2 v3 v4 v5 v6 v7
  generalize set8 wr (g + 1) v0 v1 v2 v3 v4 v5 v6 v7 = w' at *
  refine ⟨k + 1, by omega, rfl, hB.trans (hf.below hB.size (by simp; omega)), (hf.block _ (lt_of_heap hb0) (by simp; omega)).trans hb0, (hf.block _ (lt_of_heap hb1) (by simp; omega)).trans hb1, (hf.block _ (lt_of_heap hV) (by simp)).trans hV, ?_⟩
  rw [← hr]
  exact hc
theorem add32_mod (a b : Nat) : ((a : Int) + (b : Int)) % 4294967296 = ((add32 a b : Nat) : Int) := by
  unfold add32
  omega
theorem add32_mod3 (a b c : Nat) : ((a : Int) + (b : Int) + (c : Int)) % 4294967296 = ((add32 (add32 a b) c : Nat) : Int) := by
  unfold add32
  omega
/-! ### the last loop: the state added -/
def AddRel (w : World) (g : Nat) (s : List Nat) (b : List UInt8) (x z : Array Value) (iv : Value) (wr : World) : Prop :=
  ∃ (k : Nat) (cs : Array Value), k ≤ 8 ∧ iv = .int .i64 k ∧ Below w.heap.size w wr ∧ wr.heap[w.heap.size]? = some (.cells x 79 (0, 0)) ∧ wr.heap[w.heap.size + 1]? = some (.cells z 79 (0, 0)) ∧
    wr.heap[g + 1]? = some (.cells cs 79 (0, 0)) ∧ cs.size = 8 ∧ (∀ j, j < k → cs[j]? = some (.int .u32 ((compress s b).getD j 0 : Nat))) ∧ ∀ j, k ≤ j → j < 8 → cs[j]? = some (.int .u32 ((rounds (sched b 64) s 64).getD j 0 : Nat))
theorem compress_at {s : List Nat} {b : List UInt8} (hs : s.length = 8) {j : Nat} (hj : j < 8) : (compress s b).getD j 0 = add32 ((rounds (sched b 64) s 64).getD j 0) (s.getD j 0) := by
  have h := rounds_length (sched b 64) s hs 64
  unfold compress
  simp only [List.getD_eq_getElem?_getD, List.getElem?_zipWith]
  rw [List.getElem?_eq_getElem (by omega), List.getElem?_eq_getElem (by omega)]
  rfl
theorem add_start {w wr : World} {g : Nat} {s : List Nat} {b : List UInt8} {x z V : Array Value} (hs : s.length = 8) (h : BlkRel w g s b x z V (.int .i64 ((64 : Nat) : Int)) wr) : AddRel w g s b x z (.int .i64 0) wr := by
  obtain ⟨k, hk, he, hB, h0, h1, hV, hX⟩ := h
  obtain rfl : k = 64 := by injection he with _ h; omega
  have hl := rounds_length (sched b 64) s hs 64
  exact ⟨0, _, by omega, rfl, hB, h0, h1, hX, by simp [u32s, hl], fun j hj => by omega, fun j _ hj => u32s_at (by omega)⟩
theorem add_step {w wr : World} {g : Nat} {s : List Nat} {b : List UInt8} {x z cs : Array Value} {k : Nat} (hB : Below w.heap.size w wr) (h0 : wr.heap[w.heap.size]? = some (.cells x 79 (0, 0))) (h1 : wr.heap[w.heap.size + 1]? = some (.cells z 79 (0, 0)))
    (hX : wr.heap[g + 1]? = some (.cells cs 79 (0, 0))) (hc : cs.size = 8) (ha : ∀ j, j < k → cs[j]? = some (.int .u32 ((compress s b).getD j 0 : Nat))) (hb : ∀ j, k ≤ j → j < 8 → cs[j]? = some (.int .u32 ((rounds (sched b 64) s 64).getD j 0 : Nat))) (hk : k < 8) (hg : w.heap.size + 2 ≤ g) :
    AddRel w g s b x z (.int .i64 ((k : Int) + 1)) ((wr.setCell ⟨g + 1, k, none⟩ (.int .u32 ((compress s b).getD k 0 : Nat))).drew) := by
  have hf : Fr [g + 1] wr (wr.setCell ⟨g + 1, k, none⟩ (.int .u32 ((compress s b).getD k 0 : Nat))) := Fr.setCell _ _ _ _ (by simp)
  refine ⟨k + 1, cs.setIfInBounds k (.int .u32 ((compress s b).getD k 0 : Nat)), by omega, rfl, hB.trans ((hf.drewN 1).below hB.size (by simp; omega)), (hf.block _ (lt_of_heap h0) (by simp; omega)).trans h0, (hf.block _ (lt_of_heap h1) (by simp; omega)).trans h1, heap_setCell_at hX k _, by simpa using hc, fun j hj => ?_, fun j hj hj8 => ?_⟩
  · by_cases e : j = k
    · subst e
      rw [Array.getElem?_setIfInBounds_self_of_lt (by omega)]
    · rw [Array.getElem?_setIfInBounds_ne (by omega), ha j (by omega)]
  · rw [Array.getElem?_setIfInBounds_ne (by omega), hb j (by omega) hj8]
theorem add_end {cs : Array Value} {s : List Nat} {b : List UInt8} (hs : s.length = 8) (hc : cs.size = 8) (ha : ∀ j, j < 8 → cs[j]? = some (.int .u32 ((compress s b).getD j 0 : Nat))) : cs = (u32s (compress s b)).toArray :=
  row_is (by rw [hc, compress_length _ _ hs]) (by rw [compress_length _ _ hs]; exact ha)
end Go.Proofs.YtdmladdpbdcpjaaDoor
