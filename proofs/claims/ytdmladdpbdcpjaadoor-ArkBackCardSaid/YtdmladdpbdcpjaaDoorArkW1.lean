/-
  The writer of the package: a mark, numbers of two bytes or of four. (Printed by wip/abexp.py.)
-/
import Derived.Test.YtdmladdpbdcpjaaDoorArkW0
namespace Go.Proofs.YtdmladdpbdcpjaaDoor
open Go.RowKit

set_option linter.unusedSimpArgs false

attribute [local go_sem] lt1 lt2 lt3 lt4 lt5 lt6

/-- a number in k bytes, the low one first -/
def leB (k n : Nat) : List UInt8 := (List.range k).map fun i => UInt8.ofNat (n / 2 ^ (8 * i))
def lesB (k : Nat) (l : List Nat) : List UInt8 := l.flatMap (leB k)
theorem leB_length (k n : Nat) : (leB k n).length = k := by simp [leB]
theorem lesB_length (k : Nat) (l : List Nat) : (lesB k l).length = l.length * k := by
  induction l with
  | nil => simp [lesB]
  | cons n l ih =>
    unfold lesB at ih ⊢
    rw [List.flatMap_cons, List.length_append, leB_length, ih, List.length_cons, Nat.add_mul]
    omega
theorem lesB_take {k : Nat} {l : List Nat} {i : Nat} (h : i < l.length) : lesB k (l.take (i + 1)) = lesB k (l.take i) ++ leB k (l.getD i 0) := by
  unfold lesB
  rw [List.take_succ_eq_append_getElem h, List.flatMap_append]
  simp [List.getD_eq_getElem?_getD, h]
theorem leB_take {k n j : Nat} (h : j < k) : (leB k n).take (j + 1) = (leB k n).take j ++ [UInt8.ofNat (n / 2 ^ (8 * j))] := by
  rw [List.take_succ_eq_append_getElem (by rw [leB_length]; exact h)]
  simp [leB]
theorem le_int (n j : Nat) : (n : Int) / 2 ^ (8 * j) % 256 = (((UInt8.ofNat (n / 2 ^ (8 * j))).toNat : Nat) : Int) := by
  rw [UInt8.toNat_ofNat', Int.natCast_emod, Int.natCast_ediv, Int.natCast_pow]
  rfl
def ints (l : List Nat) : List Value := l.map fun n => .int .i64 (n : Nat)
theorem ints_at {l : List Nat} {j : Nat} (h : j < l.length) : (ints l)[j]? = some (.int .i64 (l.getD j 0 : Nat)) := by
  unfold ints
  rw [List.getElem?_map, List.getD_eq_getElem?_getD, List.getElem?_eq_getElem h]
  rfl
/-- a writer that holds the bytes B, wherever they lie -/
def Wx (w : World) (base gw gv g2 g4 : Nat) (B : List UInt8) : Prop := ∃ b, Wr w base gw gv g2 g4 b B
theorem Wx.below {w w' : World} {base gw gv g2 g4 : Nat} {B : List UInt8} (h : Wx w base gw gv g2 g4 B) (hb : Below w.heap.size w w') : Wx w' base gw gv g2 g4 B := by
  obtain ⟨b, h⟩ := h
  exact ⟨b, h.below hb⟩
theorem Wr.kept {w w' : World} {base gw gv g2 g4 : Nat} {b : Value} {B : List UInt8} (h : Wr w base gw gv g2 g4 b B) (hg : w.grownBy w' b.ownBlock) :
    w'.heap[gw]? = some (.cells #[b, FW g2 gv, FW g4 gv] 110 (0, 0)) ∧ w'.heap[gv]? = some (.cells #[.pointer (some ⟨gw, 0, none⟩)] 106 (0, 0)) := by
  have hne : ∀ (k : Nat) (cs : Array Value) (t : TypeId), w.heap[k]? = some (.cells cs t (0, 0)) → t ≠ 5 → w'.heap[k]? = some (.cells cs t (0, 0)) := fun k cs t hk ht => by
    refine (hg.block k (lt_of_heap hk) fun e => ?_).trans hk
    obtain ⟨_, cur, hc⟩ := own_blk h.row k e.symm
    rw [hk] at hc
    simp at hc
    exact ht hc.2
  exact ⟨hne _ _ _ h.blk (by decide), hne _ _ _ h.var (by decide)⟩
set_option maxRecDepth 100000 in
set_option maxHeartbeats 1000000 in
theorem mark_any (w : World) (base gw gv g2 g4 : Nat) (B : List UInt8) (h : Wx w base gw gv g2 g4 B) (s : ByteArray) (hs : B.length + s.size ≤ 4294967296) (hbase : base ≤ w.heap.size) :
    Calls Tryd.prog 72 #[.pointer (some ⟨gw, 0, none⟩), .string s] w fun e w' => e = .returned (.tuple #[]) ∧ Wx w' base gw gv g2 g4 (B ++ toL s) ∧ FrW base w w' := by
  obtain ⟨i0, hi0, hz0, hz1, hz2⟩ := info_parts infoU8
  obtain ⟨b, h⟩ := h
  obtain ⟨Ab, cb, rfl, _, _, _, _⟩ := own_form h.row
  have c1 := (blk_cells h.blk).1 0
  have H := Lib.hid h
  clear h
  go_enter Tryd.func72, Tryd.ntmps72
  go_wp2_with (first | (at_builtin; refine Lib.wpList_append_own_string _ rfl _ _ 28 9 rfl base 5 i0 Tryd.underlying28 Tryd.underlying9 hi0 hz0 hz1 hz2 (.slice Ab B.length cb) B.length (u8s B) rfl H.out.row s rfl (by unfold maxLen; omega) (by omega) hbase ?_))
  intro b' w1 hown hgrow hq
  clear hq
  have hrow : w1.ownsRow base 5 1 b' (B ++ toL s).length (u8s (B ++ toL s)) := by
    rw [List.length_append, toL_len, show u8s (B ++ toL s) = u8s B ++ u8s (toL s) by simp [u8s]]
    have := hown
    rw [show Lib.strCells s = u8s (toL s) by simp [Lib.strCells, u8s, toL]] at this
    exact this
  obtain ⟨N, hN⟩ : ∃ N, N = (B ++ toL s).length := ⟨_, rfl⟩
  have hrow' := hrow
  rw [← hN] at hrow'
  obtain ⟨Ab', cb', rfl, _, _, _, _⟩ := own_form hrow'
  obtain ⟨k1, k2⟩ := H.out.laid hgrow hrow
  clear hrow' hN
  have K1 := Lib.hid k1
  have K2 := Lib.hid k2
  have hblk := (H.out.kept hgrow).1
  have d1 : w1.cell? ⟨gw, 0, none⟩ = some (.slice Ab B.length cb) := (blk_cells hblk).1 0
  have d2 : w1.frozen? ⟨gw, 0, none⟩ = false := (blk_cells hblk).2.1 0
  clear hown hgrow hrow k1 k2 hblk c1
  go_wp2_with fail
  go_end0
  exact ⟨rfl, ⟨_, K1.out⟩, K2.out⟩
def PutIn (w : World) (base gw gv g2 g4 : Nat) (B X : List UInt8) (k : Nat) (jv : Value) (wr : World) : Prop := ∃ j, j ≤ k ∧ jv = .int .i64 (j : Nat) ∧ Wx wr base gw gv g2 g4 (B ++ X.take j) ∧ FrW base w wr
def PutRel (w : World) (base gw gv g2 g4 : Nat) (B : List UInt8) (k : Nat) (l : List Nat) (iv : Value) (wr : World) : Prop := ∃ i, i ≤ l.length ∧ iv = .int .i64 (i : Nat) ∧ Wx wr base gw gv g2 g4 (B ++ lesB k (l.take i)) ∧ FrW base w wr
def PutPost (w : World) (base gw gv g2 g4 : Nat) (B : List UInt8) (e : Ending) (w' : World) : Prop := e = .returned (.tuple #[]) ∧ Wx w' base gw gv g2 g4 B ∧ FrW base w w'
set_option maxHeartbeats 2000000 in
set_option maxRecDepth 100000 in
theorem put_any (w : World) (base gw gv g2 g4 : Nat) (B : List UInt8) (h : Wx w base gw gv g2 g4 B) (gk k : Nat) (hk : w.heap[gk]? = some (.cells #[.int .i64 (k : Nat)] 3 (0, 0))) (hk8 : k ≤ 8) (gl c : Nat) (l : List Nat)
    (hl : w.heap[gl]? = some (.cells (ints l).toArray 3 (0, 0))) (hn : ∀ n ∈ l, n < 4611686018427387904) (hs : B.length ≤ 4294967296) (hll : l.length ≤ 1048576) (hbase : base ≤ w.heap.size) :
    Calls Tryd.prog 94 #[.slice (some ⟨gl, 0, none⟩) l.length c, .pointer (some ⟨gk, 0, none⟩), .pointer (some ⟨gv, 0, none⟩)] w (PutPost w base gw gv g2 g4 (B ++ lesB k l)) := by
  obtain ⟨i0, hi0, hz0, hz1, hz2⟩ := info_parts infoU8
  have Hk := Lib.hid hk
  have Hl := Lib.hid hl
  have Hn := Lib.hid hn
  have H := Lib.hid h
  clear hk hl hn h
  go_enter Tryd.func94, Tryd.ntmps94
  go_wp2_with fail
  go_loopw [9] (fun iv wr => PutRel w base gw gv g2 g4 B k l iv wr) (fun iv _ => l.length - (intOf iv).toNat)
  case atStart => exact ⟨0, by omega, rfl, by simpa [lesB] using H.out, FrW.refl _ _⟩
  case round =>
    obtain ⟨i, hi, rfl, hw, hf⟩ := hrel
    have Hw := Lib.hid hw
    have Hf := Lib.hid hf
    have hsz := hf.size
    clear hw hf
    have hir : (0 : Int) ≤ i := by omega
    by_cases hlt : i < l.length
    · have hlI : (i : Int) < l.length := by omega
      have c1 : wr.cell? ⟨gl, i, none⟩ = some (.int .i64 (l.getD i 0 : Nat)) := ((blk_cells (Hf.out.other Hl.out not_w_int)).1 i).trans (by rw [List.getElem?_toArray]; exact ints_at hlt)
      have c2 : wr.cell? ⟨gk, 0, none⟩ = some (.int .i64 (k : Nat)) := (blk_cells (Hf.out.other Hk.out not_w_int)).1 0
      have hnl := Hn.out (l.getD i 0) (by rw [List.getD_eq_getElem?_getD, List.getElem?_eq_getElem hlt]; exact List.getElem_mem _)
      have Hst := Lib.hid (lesB_take (k := k) hlt)
      have hBl : (B ++ lesB k (l.take i)).length ≤ 4294967296 + 8388608 := by
        rw [List.length_append, lesB_length, List.length_take]
        have : min i l.length * k ≤ 1048576 * 8 := Nat.mul_le_mul (by omega) hk8
        omega
      generalize l.getD i 0 = n at *
      obtain ⟨B1, hB1⟩ : ∃ B1, B1 = B ++ lesB k (l.take i) := ⟨_, rfl⟩
      rw [← hB1] at Hw hBl
      have HB1 := Lib.hid hB1
      clear hB1
      go_wp2_with fail
      have Hin : Hid (PutIn w base gw gv g2 g4 B1 (leB k n) k (.int .i64 0) wr) := Lib.hid ⟨0, by omega, rfl, by simpa using Hw.out, Hf.out⟩
      clear c1 c2
      go_loopw [14] (fun jv wr => PutIn w base gw gv g2 g4 B1 (leB k n) k jv wr) (fun jv _ => k - (intOf jv).toNat)
      case atStart => exact Hin.out
      case round =>
        obtain ⟨j, hj, rfl, ⟨b, hw⟩, hf⟩ := hrel
        have hsz := hf.size
        have hjr : (0 : Int) ≤ j := by omega
        obtain ⟨X, hX⟩ : ∃ X, X = B1 ++ (leB k n).take j := ⟨_, rfl⟩
        rw [← hX] at hw
        obtain ⟨Ab, cb, rfl, _, _, _, _⟩ := own_form hw.row
        by_cases hlj : j < k
        · have hjI : (j : Int) < k := by omega
          have s1 : (0 : Int) ≤ 8 * (j : Int) := by omega
          have s2 : 8 * (j : Int) ≤ 56 := by omega
          have s4 : IntKind.i64.wrap (8 * (j : Int)) = 8 * j := by rw [IntKind.wrap_i64]; omega
          have s3 : (8 * (j : Int)).toNat = 8 * j := by omega
          have c1 : wr.cell? ⟨gv, 0, none⟩ = some (.pointer (some ⟨gw, 0, none⟩)) := (blk_cells hw.var).1 0
          have c2 : wr.cell? ⟨gw, 0, none⟩ = some (.slice Ab X.length cb) := (blk_cells hw.blk).1 0
          have HW := Lib.hid hw
          have HF := Lib.hid hf
          have Hnx : Hid (B1 ++ (leB k n).take (j + 1) = (B1 ++ (leB k n).take j) ++ [UInt8.ofNat (n / 2 ^ (8 * j))]) := Lib.hid (by rw [leB_take hlj, List.append_assoc])
          have hXl : (B1 ++ (leB k n).take j).length ≤ 4294967296 + 8388608 + 8 := by rw [List.length_append, List.length_take, leB_length]; omega
          rw [← hX] at Hnx hXl
          have C1 := Lib.hid c1
          have C2 := Lib.hid c2
          clear hw hf Hin hX c1 c2
          go_wp2_with fail
          with_reducible refine g_mix [(0, none), (1, none), (2, none), (3, none), (4, none), (5, none), (6, none), (7, none), (8, none), (9, none), (10, some false), (11, some false), (12, none), (13, none), (14, some true)] (fun w' => w'.cell? ⟨gv, 0, none⟩ = some (.pointer (some ⟨gw, 0, none⟩)) ∧ w'.cell? ⟨gw, 0, none⟩ = some (.slice Ab X.length cb)) (by kernel_rfl) (by kernel_rfl) ?_
          intro OPS
          simp only [mixOf, nthO, consO]
          iterate 10 ((with_reducible refine m_val (v := ?_) ?_ ?_ ?_); rotate_left; (rintro _ ⟨h1, h2⟩; (try simp only [s4]); go_simp; first | done | rfl | (constructor <;> rfl)); exact ⟨C1.out, C2.out⟩)
          with_reducible refine m_one ?_
          iterate 1 (with_reducible refine l_val (v := ?_) (w' := ?_) ?_ ?_; rotate_left 2; (go_simp; first | done | rfl | (constructor <;> rfl)))
          refine m_keep ⟨Cells.alloc _ _ _ _ C1.out, Cells.alloc _ _ _ _ C2.out⟩ ?_
          with_reducible refine m_one ?_
          refine wpList_append_own _ rfl (.tmp 21) (.tmp 27) 28 rfl base 5 i0 (.int .u8 0) 1 1 Tryd.underlying28 hi0 hz0 hz1 hz2 rfl (by omega) (.slice Ab X.length cb) X.length (u8s X) ?_ (World.ownsRow.alloc (w := wr.drew) HW.out.row _) ⟨wr.heap.size, 0, none⟩ 1 1 [.int .u8 ((n : Int) / 2 ^ (8 * j) % 256)] ?_ rfl (fun j v hv => World.news_of_block (w := wr.drew.alloc _) (heap_alloc_new wr.drew _) j v hv) (one_cell _) (by unfold maxLen; omega) (by omega) (by simp; omega) ?_
          · simp [Act.eval, Act.put]
          · simp [Act.eval, Act.put]
          intro b' w1 hown hgrow hq
          clear hq
          obtain ⟨ob, hgrow⟩ : ∃ ob, (wr.drew.alloc ob).grownBy w1 (Value.slice Ab X.length cb).ownBlock := ⟨_, hgrow⟩
          have hWa : Wr (wr.drew.alloc ob) base gw gv g2 g4 (.slice Ab X.length cb) X := (HW.out.drewN 1).below ((Below.refl _ _).alloc (Nat.le_refl _) _)
          have hFa : FrW base wr (wr.drew.alloc ob) := (FrW.drewN base wr 1).trans (FrW.of_below ((Below.refl _ _).alloc (Nat.le_refl _) _))
          have hrow : w1.ownsRow base 5 1 b' (X ++ [UInt8.ofNat (n / 2 ^ (8 * j))]).length (u8s (X ++ [UInt8.ofNat (n / 2 ^ (8 * j))])) := by
            rw [List.length_append, show u8s (X ++ [UInt8.ofNat (n / 2 ^ (8 * j))]) = u8s X ++ u8s [UInt8.ofNat (n / 2 ^ (8 * j))] by simp [u8s]]
            have := hown
            rw [le_int] at this
            exact this
          obtain ⟨N, hN⟩ : ∃ N, N = (X ++ [UInt8.ofNat (n / 2 ^ (8 * j))]).length := ⟨_, rfl⟩
          have hrow' := hrow
          rw [← hN] at hrow'
          obtain ⟨Ab', cb', rfl, _, _, _, _⟩ := own_form hrow'
          obtain ⟨k1, k2⟩ := hWa.laid hgrow hrow
          clear hrow' hN
          obtain ⟨b1, b2⟩ := hWa.kept hgrow
          have d1 : w1.cell? ⟨gw, 0, none⟩ = some (.slice Ab X.length cb) := (blk_cells b1).1 0
          have d2 : w1.frozen? ⟨gw, 0, none⟩ = false := (blk_cells b1).2.1 0
          have d3 : w1.cell? ⟨gv, 0, none⟩ = some (.pointer (some ⟨gw, 0, none⟩)) := (blk_cells b2).1 0
          rw [← Hnx.out] at k1
          have K1 := Lib.hid k1
          have K2 := Lib.hid (HF.out.trans (hFa.trans k2))
          clear hWa hFa hrow k1 k2 b1 b2 hown hgrow Hnx HF HW
          refine m_keep ⟨d3, d1⟩ ?_
          iterate 2 ((with_reducible refine m_val (v := ?_) ?_ ?_ ?_); rotate_left; (rintro _ ⟨h1, h2⟩; go_simp; first | done | rfl | (constructor <;> rfl)); exact ⟨d3, d1⟩)
          with_reducible refine m_one ?_
          with_reducible refine l_skip (w' := w1.setCell ⟨gw, 0, none⟩ (.slice Ab' N cb')) ?_ ?_
          · go_simp
          with_reducible refine m_last ?_
          with_reducible refine m_end ?_
          clear d1 d2 d3 C1 C2
          simp only [Act.put, List.setIfInBounds_toArray, List.set_cons_zero, List.set_cons_succ]
          go_wp2_with fail
          exact ⟨⟨j + 1, by omega, by simp, ⟨_, K1.out⟩, K2.out⟩, by simp only [intOf]; omega⟩
        · have hjI : ¬ (j : Int) < k := by omega
          obtain rfl : j = k := by omega
          have hX' : X = B1 ++ leB j n := by rw [hX, List.take_of_length_le (by rw [leB_length]; exact Nat.le_refl _)]
          have HW := Lib.hid hw
          have HF := Lib.hid hf
          have HX := Lib.hid hX'
          clear hw hf Hin hX hX'
          go_wp2_with fail
          refine ⟨⟨i + 1, by omega, by simp, ⟨.slice Ab X.length cb, ?_⟩, HF.out⟩, by simp only [intOf]; omega⟩
          rw [show B ++ lesB j (l.take (i + 1)) = X by rw [HX.out, HB1.out, List.append_assoc, ← Hst.out]]
          exact HW.out
    · have hlI : ¬ (i : Int) < l.length := by omega
      obtain rfl : i = l.length := by omega
      go_wp2_with fail
      go_end0
      refine ⟨rfl, ?_, Hf.out⟩
      have := Hw.out
      rwa [List.take_of_length_le (Nat.le_refl _)] at this
end Go.Proofs.YtdmladdpbdcpjaaDoor
