/-
  SHA-256 of the package: the schedule.
-/
import Derived.Test.YtdmladdpbdcpjaaDoorArkRow
import Derived.Test.YtdmladdpbdcpjaaDoorArkAbs
import Derived.RegionTactic
import Derived.Deep.RegionWith
import Derived.Deep.RegionHeld3
namespace Go.Proofs.YtdmladdpbdcpjaaDoor
open Go.RowKit

set_option linter.unusedSimpArgs false

attribute [local go_sem] lt1 lt2 lt3 lt4 lt5 lt6

theorem word_int {v0 v1 v2 v3 : Nat} (h0 : v0 < 256) (h1 : v1 < 256) (h2 : v2 < 256) (h3 : v3 < 256) :
    bits BinOp.or IntKind.u32 (bits BinOp.or IntKind.u32 (bits BinOp.or IntKind.u32 (IntKind.u32.wrap (IntKind.u32.wrap (v0 : Int) * 16777216)) (IntKind.u32.wrap (IntKind.u32.wrap (v1 : Int) * 65536))) (IntKind.u32.wrap (IntKind.u32.wrap (v2 : Int) * 256))) (IntKind.u32.wrap (v3 : Int)) =
      ((((v0 * 16777216 ||| v1 * 65536) ||| v2 * 256) ||| v3 : Nat) : Int) := by
  simp only [IntKind.wrap_u32']
  have e0 : (v0 : Int) % 4294967296 * 16777216 % 4294967296 = ((v0 * 16777216 : Nat) : Int) := by omega
  have e1 : (v1 : Int) % 4294967296 * 65536 % 4294967296 = ((v1 * 65536 : Nat) : Int) := by omega
  have e2 : (v2 : Int) % 4294967296 * 256 % 4294967296 = ((v2 * 256 : Nat) : Int) := by omega
  have e3 : (v3 : Int) % 4294967296 = ((v3 : Nat) : Int) := by omega
  have l1 : v0 * 16777216 ||| v1 * 65536 < 4294967296 := Nat.or_lt_two_pow (n := 32) (by omega) (by omega)
  have l2 : v0 * 16777216 ||| v1 * 65536 ||| v2 * 256 < 4294967296 := Nat.or_lt_two_pow (n := 32) l1 (by omega)
  rw [e0, e1, e2, e3, u32_or_nat _ _ (by omega) (by omega), u32_or_nat _ _ l1 (by omega), u32_or_nat _ _ l2 (by omega)]
theorem xor3_int {a b c : Nat} (ha : a < 4294967296) (hb : b < 4294967296) (hc : c < 4294967296) : bits BinOp.xor IntKind.u32 (bits BinOp.xor IntKind.u32 (a : Int) (b : Int)) (c : Int) = ((a ^^^ b ^^^ c : Nat) : Int) := by
  rw [u32_xor_nat _ _ ha hb, u32_xor_nat _ _ (xor_lt ha hb) hc]
theorem low0_int {a : Nat} (ha : a < 4294967296) : bits BinOp.xor IntKind.u32 (bits BinOp.xor IntKind.u32 ((rotr a 7 : Nat) : Int) ((rotr a 18 : Nat) : Int)) ((a : Int) / 8) = ((low0 a : Nat) : Int) := by
  rw [show (a : Int) / 8 = ((a / 8 : Nat) : Int) by omega]
  exact xor3_int (rotr_lt ha _) (rotr_lt ha _) (div_lt ha _)
theorem low1_int {a : Nat} (ha : a < 4294967296) : bits BinOp.xor IntKind.u32 (bits BinOp.xor IntKind.u32 ((rotr a 17 : Nat) : Int) ((rotr a 19 : Nat) : Int)) ((a : Int) / 1024) = ((low1 a : Nat) : Int) := by
  rw [show (a : Int) / 1024 = ((a / 1024 : Nat) : Int) by omega]
  exact xor3_int (rotr_lt ha _) (rotr_lt ha _) (div_lt ha _)
theorem sum4_wrap (a b c d : Nat) : IntKind.u32.wrap (IntKind.u32.wrap (IntKind.u32.wrap ((a : Int) + (b : Int)) + (c : Int)) + (d : Int)) = ((add32 (add32 (add32 a b) c) d : Nat) : Int) := by
  simp only [IntKind.wrap_u32', add32]
  omega
theorem row_is {cs : Array Value} {l : List Nat} (hs : cs.size = l.length) (h : ∀ j, j < l.length → cs[j]? = some (.int .u32 (l.getD j 0 : Nat))) : cs = (u32s l).toArray := by
  apply Array.ext_getElem?
  intro i
  by_cases hi : i < l.length
  · rw [h i hi]
    simp [u32s, List.getD_eq_getElem?_getD, List.getElem?_eq_getElem hi]
  · rw [Array.getElem?_eq_none (by omega), Array.getElem?_eq_none (by simp [u32s]; omega)]
/-- the schedule's first k numbers stand in the row -/
def SchRel (w : World) (Z : Array Value) (b : List UInt8) (iv : Value) (wr : World) : Prop :=
  ∃ (k : Nat) (cs : Array Value), k ≤ 64 ∧ iv = .int .i64 k ∧ Below w.heap.size w wr ∧ wr.heap[w.heap.size]? = some (.cells Z 76 (0, 0)) ∧ wr.heap[w.heap.size + 1]? = some (.cells cs 76 (0, 0)) ∧ cs.size = 64 ∧ ∀ j, j < k → cs[j]? = some (.int .u32 ((sched b k).getD j 0 : Nat))
def SchPost (w : World) (b : List UInt8) (e : Ending) (w' : World) : Prop := e = .returned (.agg (u32s (sched b 64)).toArray) ∧ Below w.heap.size w w'
theorem sch_step {w wr : World} {Z cs : Array Value} {b : List UInt8} {k : Nat} (hB : Below w.heap.size w wr) (hres : wr.heap[w.heap.size]? = some (.cells Z 76 (0, 0))) (hr : wr.heap[w.heap.size + 1]? = some (.cells cs 76 (0, 0))) (hcs : cs.size = 64)
    (hrow : ∀ j, j < k → cs[j]? = some (.int .u32 ((sched b k).getD j 0 : Nat))) (hk : k < 64) (n : Nat) : SchRel w Z b (.int .i64 ((k + 1 : Nat) : Int)) ((wr.setCell ⟨w.heap.size + 1, k, none⟩ (.int .u32 (nextW b (sched b k) : Nat))).drewN n) := by
  have hf : Fr [w.heap.size + 1] wr (wr.setCell ⟨w.heap.size + 1, k, none⟩ (.int .u32 (nextW b (sched b k) : Nat))) := Fr.setCell _ _ _ _ (by simp)
  refine ⟨k + 1, cs.setIfInBounds k (.int .u32 (nextW b (sched b k) : Nat)), by omega, rfl, ?_, (hf.block _ (lt_of_heap hres) (by simp)).trans hres, heap_setCell_at hr k _, by simpa using hcs, fun j hj => ?_⟩
  · have h1 := hB.trans (hf.below hB.size (by simp))
    exact ⟨h1.os, h1.tape, h1.output, h1.size, h1.block⟩
  · by_cases e : j = k
    · subst e
      rw [Array.getElem?_setIfInBounds_self_of_lt (by omega), sched_getD b (by omega)]
    · rw [Array.getElem?_setIfInBounds_ne (by omega), hrow j (by omega), sched_getD b (by omega), sched_getD b (by omega)]

set_option maxHeartbeats 2000000 in
set_option maxRecDepth 100000 in
theorem schedule_any (w : World) (b : List UInt8) (A : Option Addr) (c : Nat) (hb : Bs w A c b) (hl : b.length = 64) :
    Calls Tryd.prog 83 #[.slice A b.length c] w (SchPost w b) := by
  have Hb := Lib.hid hb
  have hz := zeroRow
  have hzs := zero64_size
  have hl1 : 64 ≤ b.length := by omega
  have hl2 : b.length ≤ 64 := by omega
  have hcap := hb.le
  clear hb hl
  generalize zero64 = Z at *
  generalize hL : b.length = L at *
  have HL := Lib.hid hL
  clear hL
  go_enter Tryd.func83, Tryd.ntmps83
  go_wp2_with fail
  go_loopw [10] (fun iv wr => SchRel w Z b iv wr) (fun iv _ => 64 - (intOf iv).toNat)
  case atStart =>
    refine ⟨0, Z, by omega, rfl, ((Below.refl _ _).alloc (Nat.le_refl _) _).alloc (by simp) _, ?_, ?_, hzs, fun j hj => by omega⟩
    · rw [Below.heap_alloc _ _ _ (by simp)]
      exact heap_alloc_new w _
    · have := heap_alloc_new (w.alloc (.cells Z 76)) (.cells Z 76)
      simpa using this
  case round =>
    obtain ⟨k, cs, hk, rfl, hB, hres, hr, hcs, hrow⟩ := hrel
    have Hres := Lib.hid hres
    have HB := Lib.hid hB
    have Hr := Lib.hid hr
    have Hrow := Lib.hid hrow
    have cr := blk_cells hr
    clear hB hr hrow hres
    by_cases hlt : k < 64
    · have hsome : cs[k]? = some (cs[k]'(by omega)) := Array.getElem?_eq_getElem _
      have hcell : wr.cell? ⟨w.heap.size + 1, k, none⟩ = some (cs[k]'(by omega)) := (cr.1 k).trans hsome
      have hfz := cr.2.1 k
      have hrl := cr.2.2
      clear hsome
      by_cases h16 : k < 16
      · obtain ⟨bb, oo, rfl, e0⟩ := Hb.out.at_ (k := 4 * k) (by rw [HL.out]; omega)
        obtain ⟨_, _, he1, e1⟩ := Hb.out.at_ (k := 4 * k + 1) (by rw [HL.out]; omega)
        obtain ⟨_, _, he2, e2⟩ := Hb.out.at_ (k := 4 * k + 2) (by rw [HL.out]; omega)
        obtain ⟨_, _, he3, e3⟩ := Hb.out.at_ (k := 4 * k + 3) (by rw [HL.out]; omega)
        cases he1
        cases he2
        cases he3
        have hbl : bb < w.heap.size := World.block_lt_of_cell? w _ e0
        have f0 := Cells.of_below HB.out _ _ e0
        have f1 := Cells.of_below HB.out _ _ e1
        have f2 := Cells.of_below HB.out _ _ e2
        have f3 := Cells.of_below HB.out _ _ e3
        rw [← Nat.add_assoc] at f1 f2 f3
        clear e0 e1 e2 e3
        have hne : bb ≠ w.heap.size + 1 := by omega
        have hset : ∀ (v : Value) (off : Nat), (wr.drew.setCell ⟨w.heap.size + 1, k, none⟩ v).cell? ⟨bb, off, none⟩ = wr.cell? ⟨bb, off, none⟩ := fun v off => World.cell?_of_block (a := ⟨bb, off, none⟩) (Below.heap_setCell wr.drew ⟨w.heap.size + 1, k, none⟩ v bb hne)
        have m0 := fun v => (hset v _).trans f0
        have m1 := fun v => (hset v _).trans f1
        have m2 := fun v => (hset v _).trans f2
        have m3 := fun v => (hset v _).trans f3
        clear hset
        have i0 : (0 : Int) < ((L - 4 * k : Nat) : Int) := by omega
        have i1 : (1 : Int) < ((L - 4 * k : Nat) : Int) := by omega
        have i2 : (2 : Int) < ((L - 4 * k : Nat) : Int) := by omega
        have i3 : (3 : Int) < ((L - 4 * k : Nat) : Int) := by omega
        have j0 : 4 * k < L := by omega
        have j1 : 0 < L - 4 * k := by omega
        have j2 : 4 * (k : Int) ≤ L := by omega
        have hir : (0 : Int) ≤ k := by omega
        have hil : (k : Int) < 64 := by omega
        have hw : word b k = (((b.getD (4 * k) 0).toNat * 16777216 ||| (b.getD (4 * k + 1) 0).toNat * 65536) ||| (b.getD (4 * k + 2) 0).toNat * 256) ||| (b.getD (4 * k + 3) 0).toNat := rfl
        have hv0 := (b.getD (4 * k) 0).toNat_lt
        have hv1 := (b.getD (4 * k + 1) 0).toNat_lt
        have hv2 := (b.getD (4 * k + 2) 0).toNat_lt
        have hv3 := (b.getD (4 * k + 3) 0).toNat_lt
        generalize (b.getD (4 * k) 0).toNat = v0 at *
        generalize (b.getD (4 * k + 1) 0).toNat = v1 at *
        generalize (b.getD (4 * k + 2) 0).toNat = v2 at *
        generalize (b.getD (4 * k + 3) 0).toNat = v3 at *
        have Hval : Hid (bits BinOp.or IntKind.u32 (bits BinOp.or IntKind.u32 (bits BinOp.or IntKind.u32 (IntKind.u32.wrap (IntKind.u32.wrap (v0 : Int) * 16777216)) (IntKind.u32.wrap (IntKind.u32.wrap (v1 : Int) * 65536))) (IntKind.u32.wrap (IntKind.u32.wrap (v2 : Int) * 256))) (IntKind.u32.wrap (v3 : Int)) = (word b k : Nat)) := Lib.hid (by
          rw [hw]
          exact word_int hv0 hv1 hv2 hv3)
        clear hw
        clear cr hv0 hv1 hv2 hv3
        generalize cs[k]'(by omega) = old at *
        go_wp2_with fail
        go_region_held3 (fun w' => w'.cell? ⟨bb, oo + 4 * k, none⟩ = some (.int .u8 v0) ∧ w'.cell? ⟨bb, oo + 4 * k + 1, none⟩ = some (.int .u8 v1) ∧ w'.cell? ⟨bb, oo + 4 * k + 2, none⟩ = some (.int .u8 v2) ∧ w'.cell? ⟨bb, oo + 4 * k + 3, none⟩ = some (.int .u8 v3))
          (first | exact ⟨f0, f1, f2, f3⟩ | exact ⟨m0 _, m1 _, m2 _, m3 _⟩)
          (first | fail)
        all_goals
          rw [Hval.out]
          clear f0 f1 f2 f3 m0 m1 m2 m3 i0 i1 i2 i3 j0 j1 hcell hfz
          have hstep := sch_step HB.out Hres.out Hr.out hcs Hrow.out hlt 1
          rw [show nextW b (sched b k) = word b k by unfold nextW; rw [sched_length, if_pos h16]] at hstep
          have Hstep := Lib.hid hstep
          clear hstep
          go_wp2_with fail
          go_roundw
          case rel => exact Hstep.out
          case measure => simp [intOf]; omega
      · have hwn : nextW b (sched b k) = add32 (add32 (add32 ((sched b k).getD (k - 16) 0) (low0 ((sched b k).getD (k - 15) 0))) ((sched b k).getD (k - 7) 0)) (low1 ((sched b k).getD (k - 2) 0)) := by
          unfold nextW
          rw [sched_length, if_neg h16]
        have r16 := (cr.1 (k - 16)).trans (Hrow.out (k - 16) (by omega))
        have r15 := (cr.1 (k - 15)).trans (Hrow.out (k - 15) (by omega))
        have r7 := (cr.1 (k - 7)).trans (Hrow.out (k - 7) (by omega))
        have r2 := (cr.1 (k - 2)).trans (Hrow.out (k - 2) (by omega))
        have x16 := (sched_fit b k).getD (k - 16)
        have x15 := (sched_fit b k).getD (k - 15)
        have x7 := (sched_fit b k).getD (k - 7)
        have x2 := (sched_fit b k).getD (k - 2)
        generalize (sched b k).getD (k - 16) 0 = a16 at *
        generalize (sched b k).getD (k - 15) 0 = a15 at *
        generalize (sched b k).getD (k - 7) 0 = a7 at *
        generalize (sched b k).getD (k - 2) 0 = a2 at *
        have Hwn := Lib.hid hwn
        clear hwn cr
        have hir : (0 : Int) ≤ k := by omega
        have hil : (k : Int) < 64 := by omega
        have p16 : ((k : Int) - 16).toNat = k - 16 := by omega
        have p15 : ((k : Int) - 15).toNat = k - 15 := by omega
        have p7 : ((k : Int) - 7).toNat = k - 7 := by omega
        have p2 : ((k : Int) - 2).toNat = k - 2 := by omega
        have u16' : (0 : Int) ≤ (k : Int) - 16 := by omega
        have u15' : (0 : Int) ≤ (k : Int) - 15 := by omega
        have u7' : (0 : Int) ≤ (k : Int) - 7 := by omega
        have u2' : (0 : Int) ≤ (k : Int) - 2 := by omega
        have v16' : (k : Int) - 16 < 64 := by omega
        have v15' : (k : Int) - 15 < 64 := by omega
        have v7' : (k : Int) - 7 < 64 := by omega
        have v2' : (k : Int) - 2 < 64 := by omega
        have w16 : IntKind.i64.wrap ((k : Int) - 16) = (k : Int) - 16 := by rw [IntKind.wrap_i64]; omega
        have w7 : IntKind.i64.wrap ((k : Int) - 7) = (k : Int) - 7 := by rw [IntKind.wrap_i64]; omega
        generalize cs[k]'(by omega) = old at *
        go_wp2_with fail
        go_quiet (fail)
        have Hx15 := Lib.hid x15
        have Hx2 := Lib.hid x2
        clear x15 x2
        go_wp2_with (first
          | (go_at_call 84; refine (right_any a15 7 _ Hx15.out (by omega) (by omega)).mono ?_; rintro e w' ⟨rfl, rfl⟩)
          | (go_at_call 84; refine (right_any a15 18 _ Hx15.out (by omega) (by omega)).mono ?_; rintro e w' ⟨rfl, rfl⟩)
          | (go_at_call 84; refine (right_any a2 17 _ Hx2.out (by omega) (by omega)).mono ?_; rintro e w' ⟨rfl, rfl⟩)
          | (go_at_call 84; refine (right_any a2 19 _ Hx2.out (by omega) (by omega)).mono ?_; rintro e w' ⟨rfl, rfl⟩))
        rw [low0_int Hx15.out, low1_int Hx2.out]
        clear Hx15 Hx2 r15 r2
        generalize low0 a15 = t0 at *
        generalize low1 a2 = t1 at *
        clear x16 x7 p15 p2 u15' u2' v15' v2'
        have n16 : (16 : Int) ≤ k := by omega
        have n7 : (7 : Int) ≤ k := by omega
        with_reducible refine g_mix [(0, none), (1, none), (2, none), (3, none), (4, none), (5, none), (6, none), (7, none), (8, none), (9, none), (10, none), (11, none), (12, none), (13, none), (14, none), (15, some true)] (fun w' => w'.cell? ⟨w.heap.size + 1, k - 16, none⟩ = some (.int .u32 a16) ∧ w'.cell? ⟨w.heap.size + 1, k - 7, none⟩ = some (.int .u32 a7)) (by kernel_rfl) (by kernel_rfl) ?_
        intro OPS
        simp only [mixOf, nthO, consO]
        iterate 15 ((with_reducible refine m_val (v := ?_) ?_ ?_ ?_); rotate_left; (rintro _ ⟨h1, h2⟩; (try simp only [w16, w7]); go_simp; first | done | rfl | (constructor <;> rfl)); exact ⟨r16, r7⟩)
        with_reducible refine m_one ?_
        with_reducible refine l_skip (w' := ?_) ?_ ?_
        rotate_left
        · go_simp
          rfl
        with_reducible refine m_last ?_
        with_reducible refine m_end ?_
        simp only [Act.put, List.setIfInBounds_toArray, List.set_cons_zero, List.set_cons_succ]
        rw [sum4_wrap, ← Hwn.out]
        clear r16 r7 hcell hfz
        have hstep := sch_step HB.out Hres.out Hr.out hcs Hrow.out hlt (nq + 1)
        have Hstep := Lib.hid hstep
        clear hstep
        go_wp2_with fail
        go_roundw
        case rel => exact Hstep.out
        case measure => simp [intOf]; omega
    · obtain rfl : k = 64 := by omega
      have he : cs = (u32s (sched b 64)).toArray := row_is (by rw [hcs, sched_length]) (by rw [sched_length]; exact Hrow.out)
      rw [he] at Hr hcs
      clear he cr Hrow
      go_wp2_with (first
        | (refine wpList_load_row rfl 76 _ rfl (w.heap.size + 1) rfl 76 _ (0, 0) _ Hr.out Tryd.underlying76 rfl (by rw [hcs]; exact infoRow) ?_)
        | (refine wpList_store_row rfl 76 _ _ rfl w.heap.size (u32s (sched b 64)).toArray rfl rfl 76 Z Hres.out (by rw [hcs]; exact infoRow) (by rw [hzs, hcs]) (u32s_one _) ?_))
      have hfin := setRow_heap wr w.heap.size Z (u32s (sched b 64)).toArray _ _ Hres.out
      refine bodyPost_ret (v := .agg (u32s (sched b 64)).toArray) ?_ rfl ⟨rfl, HB.out.trans ?_⟩
      · exact results_cell_row Tryd.results83 _ _ _ _ _ _ _ rfl hfin Tryd.underlying76 rfl (by rw [hcs]; exact infoRow)
      · exact ⟨rfl, rfl, rfl, by simp, fun k hk => setRow_other _ _ _ _ (by omega)⟩
end Go.Proofs.YtdmladdpbdcpjaaDoor
