/-
  SHA-256 of the package.
-/
import Derived.Test.YtdmladdpbdcpjaaDoorArkBlock
import Derived.Test.YtdmladdpbdcpjaaDoorArkOwn
import Derived.RegionTactic
import Derived.Deep.RegionWith
import Derived.Deep.RegionHeld3
namespace Go.Proofs.YtdmladdpbdcpjaaDoor
open Go.RowKit

attribute [local go_sem] lt1 lt2 lt3 lt4 lt5 lt6

/-- the constants and the state in memory -/
structure ShaAt (w : World) (gk gs : Nat) (s : List Nat) (wr : World) : Prop where
  below : Below w.heap.size w wr
  k : wr.heap[gk]? = some (.cells (u32s shaK).toArray 76 (0, 0))
  s : wr.heap[gs]? = some (.cells (u32s s).toArray 79 (0, 0))
  new : w.heap.size ≤ gk ∧ gk < gs
theorem ShaAt.step {w wr wx : World} {gk gs : Nat} {s s' : List Nat} (h : ShaAt w gk gs s wr) (hb : Below wr.heap.size wr wx) : ShaAt w gk gs s' (wx.setRow gs (u32s s').toArray) := by
  have hs := hb.block gs (lt_of_heap h.s)
  have hk := hb.block gk (lt_of_heap h.k)
  have h1 := h.new
  refine ⟨(h.below.trans (hb.mono h.below.size)).trans ⟨rfl, rfl, rfl, by simp, fun k hk => setRow_other _ _ _ _ (by omega)⟩, (setRow_other _ _ _ _ (by omega)).trans (hk.trans h.k), setRow_heap _ _ _ _ _ _ (hs.trans h.s), h.new⟩
theorem ShaAt.step8 {w wr wx : World} {gk gs : Nat} {x0 x1 x2 x3 x4 x5 x6 x7 v0 v1 v2 v3 v4 v5 v6 v7 : Nat} (h : ShaAt w gk gs [x0, x1, x2, x3, x4, x5, x6, x7] wr) (hb : Below wr.heap.size wr wx) : ShaAt w gk gs [v0, v1, v2, v3, v4, v5, v6, v7] (set8 wx gs v0 v1 v2 v3 v4 v5 v6 v7) := by
  have hs := hb.block gs (lt_of_heap h.s)
  have hk := hb.block gk (lt_of_heap h.k)
  have h1 := h.new
  have hf := set8_fr wx gs v0 v1 v2 v3 v4 v5 v6 v7
  have hl := lt_of_heap h.k
  refine ⟨(h.below.trans (hb.mono h.below.size)).trans (hf.below (Nat.le_trans h.below.size hb.size) (by simp; omega)), (hf.block gk (Nat.lt_of_lt_of_le hl hb.size) (by simp; omega)).trans (hk.trans h.k), set8_at (hs.trans h.s) _ _ _ _ _ _ _ _, h.new⟩
theorem ShaAt.drew {w wr : World} {gk gs : Nat} {s : List Nat} (h : ShaAt w gk gs s wr) : ShaAt w gk gs s wr.drew := ⟨⟨h.below.os, h.below.tape, h.below.output, h.below.size, h.below.block⟩, h.k, h.s, h.new⟩
theorem ShaAt.grown {w wr wx : World} {gk gs : Nat} {s : List Nat} (h : ShaAt w gk gs s wr) (hb : Below wr.heap.size wr wx) : ShaAt w gk gs s wx :=
  ⟨h.below.trans (hb.mono h.below.size), (hb.block gk (lt_of_heap h.k)).trans h.k, (hb.block gs (lt_of_heap h.s)).trans h.s, h.new⟩
/-- the last bytes, made longer -/
def PadRel (w : World) (gk gs : Nat) (s : List Nat) (T : List UInt8) (v : Value) (wr : World) : Prop := ShaAt w gk gs s wr ∧ wr.ownsRow w.heap.size 5 1 v T.length (u8s T)
theorem ShaAt.push {w wr wx : World} {gk gs n : Nat} {s : List Nat} {v : Value} {xs : List Value} {o : Obj} (h : ShaAt w gk gs s wr) (hown : wr.ownsRow w.heap.size 5 1 v n xs) (hg : (wr.alloc o).grownBy wx v.ownBlock) : ShaAt w gk gs s wx := by
  have hne : ∀ b, v.ownBlock = some b → b ≠ gk ∧ b ≠ gs := fun b hb => by
    obtain ⟨_, cur, hc⟩ := own_blk hown b hb
    refine ⟨fun e => ?_, fun e => ?_⟩
    · have h2 := h.k; rw [← e, hc] at h2; simp at h2
    · have h2 := h.s; rw [← e, hc] at h2; simp at h2
  have hk := lt_of_heap h.k
  have hs := lt_of_heap h.s
  refine ⟨((h.below.alloc h.below.size o).grown hg (by have := h.below.size; simp; omega) (fun k hk => (own_blk hown k hk).1)), ?_, ?_, h.new⟩
  · exact (hg.block gk (by simp; omega) (fun e => (hne gk e.symm).1 rfl)).trans ((Below.heap_alloc _ _ _ hk).trans h.k)
  · exact (hg.block gs (by simp; omega) (fun e => (hne gs e.symm).2 rfl)).trans ((Below.heap_alloc _ _ _ hs).trans h.s)
theorem pad_push {w wr wx : World} {gk gs : Nat} {s : List Nat} {T : List UInt8} {v v' : Value} {o : Obj} (x : UInt8) {n : Int} (hn : n = (x.toNat : Nat)) (h : PadRel w gk gs s T v wr) (hown : wx.ownsRow w.heap.size 5 1 v' (T.length + 1) (u8s T ++ [.int .u8 n])) (hg : (wr.alloc o).grownBy wx v.ownBlock) : PadRel w gk gs s (T ++ [x]) v' wx := by
  subst hn
  refine ⟨h.1.push h.2 hg, ?_⟩
  have := hown
  rw [show T.length + 1 = (T ++ [x]).length by simp, show u8s T ++ [.int .u8 ((x.toNat : Nat) : Int)] = u8s (T ++ [x]) by simp [u8s]] at this
  exact this
def PadUp (w : World) (gk gs : Nat) (s : List Nat) (R : List UInt8) (N : Nat) (v : Value) (wr : World) : Prop := ∃ k, k ≤ N ∧ PadRel w gk gs s (R ++ [128] ++ List.replicate k 0) v wr
def TailRel (w : World) (gk gs : Nat) (s : List Nat) (T : List UInt8) (n k : Nat) (v : Value) (wr : World) : Prop := PadRel w gk gs s (T ++ (be64 (8 * n)).take k) v wr
theorem be_int (n k : Nat) : (8 * (n : Int)) / 2 ^ (56 - 8 * k) % 256 = (((UInt8.ofNat (8 * n / 2 ^ (56 - 8 * k))).toNat : Nat) : Int) := by
  rw [UInt8.toNat_ofNat', Int.natCast_emod, Int.natCast_ediv, Int.natCast_mul, Int.natCast_pow]
  rfl
theorem be64_take (m : Nat) {k : Nat} (h : k < 8) : (be64 m).take (k + 1) = (be64 m).take k ++ [UInt8.ofNat (m / 2 ^ (56 - 8 * k))] := by
  rw [List.take_succ_eq_append_getElem (by rw [be64_length]; exact h)]
  simp [be64]
theorem tail_push {w wr wx : World} {gk gs n k : Nat} {s : List Nat} {T U : List UInt8} {v v' : Value} {o : Obj} (hU : U = T ++ (be64 (8 * n)).take k) (hk : k < 8) (h : PadRel w gk gs s U v wr) (hown : wx.ownsRow w.heap.size 5 1 v' (U.length + 1) (u8s U ++ [.int .u8 ((8 * (n : Int)) / 2 ^ (56 - 8 * k) % 256)])) (hg : (wr.alloc o).grownBy wx v.ownBlock) : TailRel w gk gs s T n (k + 1) v' wx := by
  have := pad_push _ (be_int n k) h hown hg
  unfold TailRel
  rw [be64_take _ hk, ← List.append_assoc, ← hU]
  exact this
def TailUp (w : World) (gk gs : Nat) (s : List Nat) (T : List UInt8) (n : Nat) (kv v : Value) (wr : World) : Prop := ∃ k : Nat, k ≤ 8 ∧ kv = .int .i64 (k : Nat) ∧ TailRel w gk gs s T n k v wr
theorem PadRel.step8 {w wr wx : World} {gk gs : Nat} {x0 x1 x2 x3 x4 x5 x6 x7 v0 v1 v2 v3 v4 v5 v6 v7 : Nat} {U : List UInt8} {v : Value} (h : PadRel w gk gs [x0, x1, x2, x3, x4, x5, x6, x7] U v wr) (hb : Below wr.heap.size wr wx) : PadRel w gk gs [v0, v1, v2, v3, v4, v5, v6, v7] U v (set8 wx gs v0 v1 v2 v3 v4 v5 v6 v7) := by
  refine ⟨h.1.step8 hb, own_keep h.2 fun g cs hg => ?_⟩
  have hf := set8_fr wx gs v0 v1 v2 v3 v4 v5 v6 v7
  have hl := lt_of_heap hg
  refine (hf.block g (Nat.lt_of_lt_of_le hl hb.size) ?_).trans ((hb.block g hl).trans hg)
  simp only [List.mem_singleton]
  rintro rfl
  have := h.1.s
  rw [hg] at this
  simp at this
def Sha4 (w : World) (gk gs : Nat) (s : List Nat) (U : List UInt8) (v iv : Value) (wr : World) : Prop :=
  ∃ i, 64 * i ≤ U.length ∧ iv = .int .i64 ((64 * i : Nat) : Int) ∧ PadRel w gk gs (blocks s U i) U v wr
theorem index_state (x0 x1 x2 x3 x4 x5 x6 x7 : Nat) (k : Nat) (hk : k < 8) (w : World) : (Instr.index 79 (.agg #[.int .u32 (x0 : Nat), .int .u32 (x1 : Nat), .int .u32 (x2 : Nat), .int .u32 (x3 : Nat), .int .u32 (x4 : Nat), .int .u32 (x5 : Nat), .int .u32 (x6 : Nat), .int .u32 (x7 : Nat)]) (.int .i64 (k : Int))).run Tryd.prog w = .ok (.int .u32 (([x0, x1, x2, x3, x4, x5, x6, x7].getD k 0 : Nat) : Int)) w := by
  rcases (by omega : k = 0 ∨ k = 1 ∨ k = 2 ∨ k = 3 ∨ k = 4 ∨ k = 5 ∨ k = 6 ∨ k = 7) with rfl | rfl | rfl | rfl | rfl | rfl | rfl | rfl
  all_goals kernel_rfl
def Sha5 (w : World) (l : List Nat) (kv v : Value) (wr : World) : Prop :=
  ∃ k : Nat, k ≤ l.length ∧ kv = .int .i64 (k : Nat) ∧ wr.ownsRow w.heap.size 5 1 v ((l.take k).flatMap wordBytes).length (u8s ((l.take k).flatMap wordBytes)) ∧ Below w.heap.size w wr
theorem word_u8s (x : Nat) : u8s (wordBytes x) = [.int .u8 ((x : Int) / 16777216 % 256), .int .u8 ((x : Int) / 65536 % 256), .int .u8 ((x : Int) / 256 % 256), .int .u8 ((x : Int) % 256)] := by
  simp [u8s, wordBytes]
theorem out_step {w wr wx : World} {l : List Nat} {k : Nat} {v v' : Value} {O : List UInt8} {o : Obj} (hO : O = (l.take k).flatMap wordBytes) (hk : k < l.length) (hown : wr.ownsRow w.heap.size 5 1 v O.length (u8s O)) (hB : Below w.heap.size w wr)
    (hown' : wx.ownsRow w.heap.size 5 1 v' (O.length + 4) (u8s O ++ u8s (wordBytes (l.getD k 0)))) (hg : (wr.alloc o).grownBy wx v.ownBlock) : Sha5 w l (.int .i64 ((k : Int) + 1)) v' wx := by
  refine ⟨k + 1, by omega, rfl, ?_, ((hB.alloc hB.size o).grown hg (by have := hB.size; simp; omega) (fun k hk => (own_blk hown k hk).1))⟩
  have e : (l.take (k + 1)).flatMap wordBytes = O ++ wordBytes (l.getD k 0) := by
    rw [List.take_succ_eq_append_getElem hk, List.flatMap_append, ← hO]
    simp [List.getD_eq_getElem?_getD, hk]
  rw [e, List.length_append]
  have h4 : (wordBytes (l.getD k 0)).length = 4 := rfl
  rw [h4, show u8s (O ++ wordBytes (l.getD k 0)) = u8s O ++ u8s (wordBytes (l.getD k 0)) by simp [u8s]]
  exact hown'
theorem words_length : ∀ l : List Nat, (l.flatMap wordBytes).length = 4 * l.length
  | [] => rfl
  | x :: l => by rw [List.flatMap_cons, List.length_append, words_length l, List.length_cons]; simp [wordBytes]; omega
def Sha1 (w : World) (gk gs : Nat) (b : List UInt8) (iv : Value) (wr : World) : Prop :=
  ∃ i, 64 * i ≤ b.length ∧ iv = .int .i64 ((64 * i : Nat) : Int) ∧ ShaAt w gk gs (blocks shaH b i) wr

set_option maxHeartbeats 2000000 in
set_option maxRecDepth 100000 in
theorem sha_any (w : World) (b : List UInt8) (A : Option Addr) (c : Nat) (hb : Bs w A c b) (hl : b.length ≤ 1048576) :
    Calls Tryd.prog 28 #[.slice A b.length c] w (BytesPost (sha b) w) := by
  have Hb := Lib.hid hb
  have hcap := hb.le
  clear hb
  obtain ⟨z, hzz⟩ : ∃ z, z = (u32s (List.replicate 8 0)).toArray := ⟨_, rfl⟩
  have hz := zeroState
  rw [← hzz] at hz
  have Hzs := Lib.hid (show z.size = 8 by rw [hzz]; simp [u32s])
  have hz2 := zeroRow
  have hZs := zero64_size
  generalize zero64 = Z at *
  have HZs := Lib.hid hZs
  clear hzz hZs
  obtain ⟨KA, hKA⟩ : ∃ x, x = (u32s shaK).toArray := ⟨_, rfl⟩
  have HKs := Lib.hid (show KA.size = 64 by rw [hKA]; exact shaK_size)
  have HK1 := Lib.hid (show KA.all (·.oneCell') = true by rw [hKA]; exact u32s_one _)
  obtain ⟨HA, hHA⟩ : ∃ x, x = (u32s shaH).toArray := ⟨_, rfl⟩
  have HHs := Lib.hid (show HA.size = 8 by rw [hHA]; rfl)
  have HH1 := Lib.hid (show HA.all (·.oneCell') = true by rw [hHA]; exact u32s_one _)
  have hcon := constants_any
  have hini := initial_any
  rw [← hKA] at hcon
  rw [← hHA] at hini
  have HKA := Lib.hid hKA
  have HHA := Lib.hid hHA
  clear hKA hHA
  obtain ⟨i0, hi0, hz0, hz1, hz2⟩ := info_parts infoU8
  go_enter Tryd.func28, Tryd.ntmps28
  go_wp2_with fail
  refine (hcon _).mono ?_
  rintro e w1 ⟨rfl, hB1⟩
  have HB1 := Lib.hid hB1
  clear hB1
  go_wp2_with (first
    | (refine wpList_store_row rfl 76 _ _ rfl w1.heap.size KA rfl rfl 76 Z (heap_alloc_new w1 _) (by rw [HKs.out]; exact infoRow) (by rw [HZs.out, HKs.out]) HK1.out ?_; rw [World.setRow_alloc_new]))
  refine (hini _).mono ?_
  rintro e w2 ⟨rfl, hB2⟩
  have Hk2 := Lib.hid ((hB2.block w1.heap.size (by simp)).trans (heap_alloc_new w1 _))
  have Hsz := Lib.hid (show w1.heap.size < w2.heap.size by have := hB2.size; simp at this; omega)
  have HB2 := Lib.hid ((HB1.out.alloc HB1.out.size _).trans (hB2.mono (by have := HB1.out.size; simp; omega)))
  clear hB2
  go_wp2_with (first
    | (refine wpList_store_row rfl 79 _ _ rfl w2.heap.size HA rfl rfl 79 z (heap_alloc_new w2 _) (by rw [HHs.out]; exact infoState) (by rw [Hzs.out, HHs.out]) HH1.out ?_; rw [World.setRow_alloc_new]))
  have hinit : ShaAt w w1.heap.size w2.heap.size shaH (w2.alloc (.cells HA 79)) := by
    refine ⟨HB2.out.alloc HB2.out.size _, ?_, ?_, HB1.out.size, Hsz.out⟩
    · rw [Below.heap_alloc _ _ _ Hsz.out, Hk2.out, HKA.out]
    · rw [heap_alloc_new, HHA.out]
  have Hinit := Lib.hid hinit
  clear hinit
  generalize w2.heap.size = gs at *
  generalize w1.heap.size = gk at *
  go_loopw [6] (fun iv wr => Sha1 w gk gs b iv wr) (fun iv _ => b.length - (intOf iv).toNat)
  case atStart => exact ⟨0, by omega, rfl, Hinit.out⟩
  case round =>
    obtain ⟨i, hi, rfl, hat⟩ := hrel
    have Hat := Lib.hid hat
    clear hat
    by_cases hlt : i < b.length / 64
    · obtain ⟨bb, oo, rfl, _⟩ := Hb.out.at_ (k := 64 * i) (by omega)
      obtain ⟨a, ha⟩ : ∃ a, a = 64 * i := ⟨_, rfl⟩
      rw [← ha] at hi ⊢
      have ha1 : a + 64 ≤ b.length := by omega
      have ha2 : (a : Int) < (b.length : Int) / 64 * 64 := by omega
      have ha3 : (0 : Int) ≤ a := by omega
      have ha4 : (a : Int) ≤ (a : Int) + 64 := by omega
      have ha5 : (a : Int) + 64 ≤ c := by omega
      have ha6 : ¬ c = a := by omega
      have ha7 : IntKind.i64.wrap ((a : Int) + 64) = (a : Int) + 64 := by rw [IntKind.wrap_i64]; omega
      have Ha := Lib.hid ha
      clear ha
      obtain ⟨s, hs⟩ : ∃ s, s = blocks shaH b i := ⟨_, rfl⟩
      have hs8 : s.length = 8 := by rw [hs]; exact blocks_length _ _ rfl _
      have hfit : Fit s := by rw [hs]; exact blocks_fit shaH_fit _ _
      have hA := Hat.out
      rw [← hs] at hA
      have hcut := (Hb.out.keep (Cells.of_below hA.below)).cut rfl ha1
      have hcl : ((b.drop a).take 64).length = 64 := by simp; omega
      have hblk := block_any wr.drew s ((b.drop a).take 64) _ _ gk hs8 hfit (hcut.keep fun _ _ h => h) hcl hA.k
      rw [hcl] at hblk
      unfold BlkPost at hblk
      have hnext : blocks shaH b (i + 1) = compress s ((b.drop a).take 64) := by rw [blocks, ← hs, ← Ha.out]
      have hc8 : (compress s ((b.drop a).take 64)).length = 8 := compress_length _ _ hs8
      obtain ⟨y0, y1, y2, y3, y4, y5, y6, y7, hy⟩ := eight hc8
      obtain ⟨x0, x1, x2, x3, x4, x5, x6, x7, hx⟩ := eight hs8
      rw [hy] at hnext
      rw [hy, hx] at hblk
      have hblk2 : Calls Tryd.prog 60 #[.agg #[.int .u32 (x0 : Nat), .int .u32 (x1 : Nat), .int .u32 (x2 : Nat), .int .u32 (x3 : Nat), .int .u32 (x4 : Nat), .int .u32 (x5 : Nat), .int .u32 (x6 : Nat), .int .u32 (x7 : Nat)], .slice (some ⟨bb, oo + a, none⟩) 64 (c - a), .pointer (some ⟨gk, 0, none⟩)] wr.drew (fun e w' => e = .returned (.agg #[.int .u32 (y0 : Nat), .int .u32 (y1 : Nat), .int .u32 (y2 : Nat), .int .u32 (y3 : Nat), .int .u32 (y4 : Nat), .int .u32 (y5 : Nat), .int .u32 (y6 : Nat), .int .u32 (y7 : Nat)]) ∧ Below wr.heap.size wr w') := hblk.mono fun e w' ⟨h1, h2⟩ => ⟨h1, ⟨h2.os, h2.tape, h2.output, h2.size, h2.block⟩⟩
      rw [hx] at hA
      have HA := Lib.hid hA
      have cx := blk_cells hA.s
      have Hblk := Lib.hid hblk2
      have Hnext := Lib.hid hnext
      clear hblk hnext hcut hcl hs hs8 hfit Hat hblk2 hy hx hA hc8
      simp only [u32s, List.map_cons, List.map_nil] at cx
      have cx1 := cx.1
      have cx2 := cx.2.1
      have cx3 := cx.2.2
      clear cx
      have tz : ((a : Int) + 64).toNat - a = 64 := by omega
      go_wp2_with fail
      go_region_with (go_at_call 60; with_reducible refine Hblk.out.mono ?_; rintro e wx ⟨rfl, hbw⟩; have k3 := hbw.size; have k0 : ∀ i, wx.cell? ⟨gs, i, none⟩ = wr.cell? ⟨gs, i, none⟩ := fun i => hbw.cell (p := ⟨gs, i, none⟩) cx3; have k1 : ∀ i, wx.frozen? ⟨gs, i, none⟩ = wr.frozen? ⟨gs, i, none⟩ := fun i => hbw.frozen (p := ⟨gs, i, none⟩) cx3)
      all_goals
        have hst := HA.out.step8 (v0 := y0) (v1 := y1) (v2 := y2) (v3 := y3) (v4 := y4) (v5 := y5) (v6 := y6) (v7 := y7) hbw
        rw [← Hnext.out] at hst
        have Hfin : Hid (Sha1 w gk gs b (.int .i64 ((a : Int) + 64)) (set8 wx gs y0 y1 y2 y3 y4 y5 y6 y7)) := Lib.hid ⟨i + 1, by omega, by rw [Ha.out]; rfl, hst⟩
        clear hst hbw k0 k1 k3 cx1 cx2 cx3
        go_wp2_with fail
        exact ⟨Hfin.out, by simp [intOf]; omega⟩
    · obtain ⟨n, hn⟩ : ∃ n, n = b.length / 64 := ⟨_, rfl⟩
      obtain rfl : i = n := by omega
      have h5 : (b.length : Int) / 64 * 64 = ((64 * i : Nat) : Int) := by omega
      have h6 : 64 * i ≤ b.length := by omega
      have h7 : b.length < 64 * i + 64 := by omega
      have Hn := Lib.hid hn
      obtain ⟨a, ha⟩ : ∃ a, a = 64 * i := ⟨_, rfl⟩
      rw [← ha] at hi h5 h6 h7 ⊢
      rw [h5]
      have Ha := Lib.hid ha
      clear ha hn h5 hlt
      have h8 : (0 : Int) ≤ a := by omega
      have h9 : (a : Int) ≤ b.length := by omega
      have hsl := slice_lo A b.length c a h6
      have hrest : (b.drop a).length < 64 := by simp; omega
      have Hrest := Lib.hid hrest
      clear hrest
      go_wp2_with fail
      refine (fresh_at (b.drop a) _ _ _ wr (by simp) (by have := Hrest.out; omega) ((Hb.out.keep (Cells.of_below Hat.out.below)).tail h6)).mono ?_
      rintro e wf ⟨g, rfl, hg, hgs, hbf⟩
      have Hown := Lib.hid (own_of_block (base := w.heap.size) (Nat.le_trans Hat.out.below.size hgs) hg (by rw [u8s_length]; have := Hrest.out; unfold maxLen; omega))
      have Hatf := Lib.hid (Hat.out.grown hbf)
      clear hg hbf Hat hsl
      rw [u8s_length] at Hown
      obtain ⟨R, hR⟩ : ∃ R, R = b.drop a := ⟨_, rfl⟩
      rw [← hR] at Hown Hrest ⊢
      have HR := Lib.hid hR
      clear hR
      have Hp0 : Hid (PadRel w gk gs (blocks shaH b i) R (.slice (some ⟨g, 0, none⟩) R.length R.length) wf) := Lib.hid ⟨Hatf.out, Hown.out⟩
      have hwf := Hatf.out.below.size
      go_wp2_with (first | (at_builtin; refine wpList_append_own _ rfl _ _ 28 rfl w.heap.size 5 i0 (.int .u8 0) 1 1 Tryd.underlying28 hi0 hz0 hz1 hz2 rfl (by omega) (.slice (some ⟨g, 0, none⟩) R.length R.length) R.length (u8s R) rfl (Hown.out.alloc _) ⟨wf.heap.size, 0, none⟩ 1 1 [.int .u8 128] rfl rfl (cell_one_new _ _ _) (one_cell _) (by have := Hrest.out; unfold maxLen; omega) (by have := Hrest.out; omega) (by simp; omega) ?_))
      intro v1 wp hown1 hgrow1 _
      have Hp1 := Lib.hid (pad_push 128 (by decide) Hp0.out hown1 hgrow1)
      obtain ⟨Av, cv, rfl, _, _, _, _⟩ := own_form hown1
      clear hown1 hgrow1 Hp0 Hatf Hown
      go_wp2_with fail
      go_loopw [7] (fun v wr => PadUp w gk gs (blocks shaH b i) R (zerosFor b.length) v wr) (fun v _ => 200 - lenOf v)
      case atStart => exact ⟨0, by omega, by simpa using Hp1.out⟩
      case round =>
        obtain ⟨k, hk, hp⟩ := hrel
        obtain ⟨T, hT⟩ : ∃ T, T = R ++ [128] ++ List.replicate k 0 := ⟨_, rfl⟩
        rw [← hT] at hp
        have hlen : T.length = R.length + 1 + k := by rw [hT]; simp; omega
        have hRl : R.length = b.length % 64 := by rw [HR.out]; have := Ha.out; have := Hn.out; simp; omega
        have hz : zerosFor b.length = (55 + 64 - b.length % 64) % 64 := rfl
        have htm : (T.length : Int).tmod 64 = (T.length : Int) % 64 := Int.tmod_eq_emod_of_nonneg (by omega)
        have Hp := Lib.hid hp
        have HT := Lib.hid hT
        obtain ⟨Av, cv, rfl, _, _, _, _⟩ := own_form hp.2
        have hwr := hp.1.below.size
        have h200 : T.length < 200 := by omega
        clear hp hT
        by_cases hlt : k < zerosFor b.length
        · have hne : ((T.length : Int) % 64 != 56) = true := by rw [bne_iff_ne]; omega
          clear hlen hRl hz htm
          go_wp2_with (first | (at_builtin; refine wpList_append_own _ rfl _ _ 28 rfl w.heap.size 5 i0 (.int .u8 0) 1 1 Tryd.underlying28 hi0 hz0 hz1 hz2 rfl (by omega) (.slice Av T.length cv) T.length (u8s T) rfl (Hp.out.2.alloc _) ⟨wr.heap.size, 0, none⟩ 1 1 [.int .u8 0] rfl rfl (cell_one_new _ _ _) (one_cell _) (by unfold maxLen; omega) (by omega) (by simp; omega) ?_))
          intro v1 wp hown1 hgrow1 _
          have Hp1 := Lib.hid (pad_push 0 (by decide) Hp.out hown1 hgrow1)
          obtain ⟨Av1, cv1, rfl, _, _, _, _⟩ := own_form hown1
          clear hown1 hgrow1
          go_wp2_with fail
          have Hfin : Hid (PadUp w gk gs (blocks shaH b i) R (zerosFor b.length) (.slice Av1 (T.length + 1) cv1) wp) := Lib.hid ⟨k + 1, by omega, by
            have := Hp1.out
            rw [HT.out, List.append_assoc, ← List.replicate_succ', ← HT.out] at this
            exact this⟩
          go_wp2_with fail
          go_roundw
          case rel => exact Hfin.out
          case measure => simp [lenOf]; omega
        · have hkz : k = zerosFor b.length := by omega
          have heq : ((T.length : Int) % 64 != 56) = false := by rw [bne_eq_false_iff_eq]; omega
          rw [hkz] at HT
          clear hlen hRl hz htm hkz
          have h8l : (8 : Int) * b.length ≤ 8388608 := by omega
          have h8g : (0 : Int) ≤ (8 : Int) * b.length := by omega
          have Hp' : Hid (TailRel w gk gs (blocks shaH b i) T b.length 0 (.slice Av T.length cv) wr) := Lib.hid (by simpa [TailRel, be64] using Hp.out)
          clear Hp
          go_wp2_with fail
          go_loopw [44, 7] (fun kv v wr => TailUp w gk gs (blocks shaH b i) T b.length kv v wr) (fun kv _ _ => 8 - (intOf kv).toNat)
          case atStart => exact ⟨0, by omega, rfl, Hp'.out⟩
          case round =>
            obtain ⟨k, hk, rfl, hp⟩ := hrel
            obtain ⟨U, hU⟩ : ∃ U, U = T ++ (be64 (8 * b.length)).take k := ⟨_, rfl⟩
            have hp' := hp
            unfold TailRel at hp'
            rw [← hU] at hp'
            have hUl : U.length = T.length + k := by rw [hU, List.length_append, List.length_take, be64_length]; omega
            have Hp := Lib.hid hp'
            have HU := Lib.hid hU
            obtain ⟨Av2, cv2, rfl, _, _, _, _⟩ := own_form hp'.2
            have hwr := hp'.1.below.size
            have h300 : U.length < 300 := by omega
            clear hp hp' hU hUl
            by_cases hlt : k < 8
            · have hk1 : (0 : Int) ≤ 56 - 8 * (k : Int) := by omega
              have hk2 : 56 - 8 * (k : Int) ≤ 56 := by omega
              have hk3 : (56 - 8 * (k : Int)).toNat = 56 - 8 * k := by omega
              go_wp2_with (first | (at_builtin; refine wpList_append_own _ rfl _ _ 28 rfl w.heap.size 5 i0 (.int .u8 0) 1 1 Tryd.underlying28 hi0 hz0 hz1 hz2 rfl (by omega) (.slice Av2 U.length cv2) U.length (u8s U) rfl (Hp.out.2.alloc _) ⟨wr.heap.size, 0, none⟩ 1 1 [.int .u8 (8 * (b.length : Int) / 2 ^ (56 - 8 * k) % 256)] rfl rfl (cell_one_new _ _ _) (one_cell _) (by unfold maxLen; omega) (by omega) (by simp; omega) ?_))
              intro v1 wp hown1 hgrow1 _
              have Hp1 := Lib.hid (tail_push HU.out hlt Hp.out hown1 hgrow1)
              obtain ⟨Av3, cv3, rfl, _, _, _, _⟩ := own_form hown1
              clear hown1 hgrow1
              have Hfin : Hid (TailUp w gk gs (blocks shaH b i) T b.length (.int .i64 ((k : Int) + 1)) (.slice Av3 (U.length + 1) cv3) wp) := Lib.hid ⟨k + 1, by omega, rfl, Hp1.out⟩
              go_wp2_with fail
              go_roundw
              case rel => exact Hfin.out
              case measure => simp [intOf]; omega
            · rw [List.take_of_length_le (by rw [be64_length]; omega)] at HU
              have hdk : decide ((k : Int) < 8) = false := by simp; omega
              have Hpad : Hid (b.drop (64 * i) ++ ([128] ++ List.replicate (zerosFor b.length) 0 ++ be64 (8 * b.length)) = U) := Lib.hid (by rw [HU.out, HT.out, HR.out, Ha.out]; simp)
              have hmod : U.length % 64 = 0 := by
                have h1 := padded_length b
                have h2 := congrArg List.length Hpad.out
                have h3 := Ha.out
                simp only [padded, List.length_append, List.length_drop, List.length_cons, List.length_nil, List.length_replicate, be64_length] at h1 h2
                omega
              obtain ⟨m, hm⟩ : ∃ m, U.length = 64 * m := ⟨U.length / 64, by omega⟩
              have hshaP : sha b = (blocks (blocks shaH b i) U m).flatMap wordBytes := by
                have h3 := sha_parts b i (by have := Ha.out; omega) ([128] ++ List.replicate (zerosFor b.length) 0 ++ be64 (8 * b.length)) (by simp [padded]) m (by rw [Hpad.out]; exact hm)
                rw [Hpad.out] at h3
                exact h3
              have Hm := Lib.hid hm
              have HshaP := Lib.hid hshaP
              have Hs0 : Hid ((blocks shaH b i).length = 8) := Lib.hid (blocks_length _ _ rfl _)
              have Hf0 : Hid (Fit (blocks shaH b i)) := Lib.hid (blocks_fit shaH_fit _ _)
              generalize blocks shaH b i = s0 at *
              have Hst : Hid (Sha4 w gk gs s0 U (.slice Av2 U.length cv2) (.int .i64 0) wr) := Lib.hid ⟨0, by omega, rfl, Hp.out⟩
              clear hm hshaP hmod Hpad HU HT HR Hrest Ha Hn Hp Hp' Hp1 HKs HK1 HHs HH1 HKA HHA Hzs HZs
              go_wp2_with fail
              go_loopw [9] (fun iv wr => Sha4 w gk gs s0 U (.slice Av2 U.length cv2) iv wr) (fun iv _ => U.length - (intOf iv).toNat)
              case atStart => exact Hst.out
              case round =>
                obtain ⟨i2, hi2, rfl, hat⟩ := hrel
                have Hat := Lib.hid hat
                clear hat
                by_cases hlt : i2 < m
                · obtain ⟨A9, c9, he9, hbs⟩ := own_bs Hat.out.2
                  simp only [Value.slice.injEq] at he9
                  obtain ⟨rfl, _, rfl⟩ := he9
                  have hUm := Hm.out
                  obtain ⟨bb, oo, rfl, _⟩ := hbs.at_ (k := 64 * i2) (by omega)
                  have hUc := hbs.le
                  obtain ⟨a2, ha⟩ : ∃ a2, a2 = 64 * i2 := ⟨_, rfl⟩
                  rw [← ha] at hi2 ⊢
                  have ha1 : a2 + 64 ≤ U.length := by omega
                  have ha2 : (a2 : Int) < (U.length : Int) := by omega
                  have ha3 : (0 : Int) ≤ a2 := by omega
                  have ha4 : (a2 : Int) ≤ (a2 : Int) + 64 := by omega
                  have ha5 : (a2 : Int) + 64 ≤ cv2 := by omega
                  have ha6 : ¬ cv2 = a2 := by omega
                  have ha7 : IntKind.i64.wrap ((a2 : Int) + 64) = (a2 : Int) + 64 := by rw [IntKind.wrap_i64]; omega
                  have Ha := Lib.hid ha
                  clear ha hUm
                  obtain ⟨s, hs⟩ : ∃ s, s = blocks s0 U i2 := ⟨_, rfl⟩
                  have hs8 : s.length = 8 := by rw [hs]; exact blocks_length _ _ Hs0.out _
                  have hfit : Fit s := by rw [hs]; exact blocks_fit Hf0.out _ _
                  have hA := Hat.out
                  rw [← hs] at hA
                  have hcut := hbs.cut rfl ha1
                  have hcl : ((U.drop a2).take 64).length = 64 := by simp; omega
                  have hblk := block_any wr.drew s ((U.drop a2).take 64) _ _ gk hs8 hfit (hcut.keep fun _ _ h => h) hcl hA.1.k
                  rw [hcl] at hblk
                  have hnext : blocks s0 U (i2 + 1) = compress s ((U.drop a2).take 64) := by rw [blocks, ← hs, ← Ha.out]
                  have hc8 : (compress s ((U.drop a2).take 64)).length = 8 := compress_length _ _ hs8
                  obtain ⟨y0, y1, y2, y3, y4, y5, y6, y7, hy⟩ := eight hc8
                  obtain ⟨x0, x1, x2, x3, x4, x5, x6, x7, hx⟩ := eight hs8
                  rw [hy] at hnext
                  unfold BlkPost at hblk
                  rw [hy, hx] at hblk
                  have hblk2 : Calls Tryd.prog 60 #[.agg #[.int .u32 (x0 : Nat), .int .u32 (x1 : Nat), .int .u32 (x2 : Nat), .int .u32 (x3 : Nat), .int .u32 (x4 : Nat), .int .u32 (x5 : Nat), .int .u32 (x6 : Nat), .int .u32 (x7 : Nat)], .slice (some ⟨bb, oo + a2, none⟩) 64 (cv2 - a2), .pointer (some ⟨gk, 0, none⟩)] wr.drew (fun e w' => e = .returned (.agg #[.int .u32 (y0 : Nat), .int .u32 (y1 : Nat), .int .u32 (y2 : Nat), .int .u32 (y3 : Nat), .int .u32 (y4 : Nat), .int .u32 (y5 : Nat), .int .u32 (y6 : Nat), .int .u32 (y7 : Nat)]) ∧ Below wr.heap.size wr w') := hblk.mono fun e w' ⟨h1, h2⟩ => ⟨h1, ⟨h2.os, h2.tape, h2.output, h2.size, h2.block⟩⟩
                  rw [hx] at hA
                  have HA2 := Lib.hid hA
                  have cx := blk_cells hA.1.s
                  have Hblk := Lib.hid hblk2
                  have Hnext := Lib.hid hnext
                  clear hblk hnext hcut hcl hs hs8 hfit Hat hblk2 hy hx hA hc8 hbs
                  simp only [u32s, List.map_cons, List.map_nil] at cx
                  have cx1 := cx.1
                  have cx2 := cx.2.1
                  have cx3 := cx.2.2
                  clear cx
                  have tz : ((a2 : Int) + 64).toNat - a2 = 64 := by omega
                  go_wp2_with fail
                  go_region_with (go_at_call 60; with_reducible refine Hblk.out.mono ?_; rintro e wx ⟨rfl, hbw⟩; have k3 := hbw.size; have k0 : ∀ i, wx.cell? ⟨gs, i, none⟩ = wr.cell? ⟨gs, i, none⟩ := fun i => hbw.cell (p := ⟨gs, i, none⟩) cx3; have k1 : ∀ i, wx.frozen? ⟨gs, i, none⟩ = wr.frozen? ⟨gs, i, none⟩ := fun i => hbw.frozen (p := ⟨gs, i, none⟩) cx3)
                  all_goals
                    have hst := HA2.out.step8 (v0 := y0) (v1 := y1) (v2 := y2) (v3 := y3) (v4 := y4) (v5 := y5) (v6 := y6) (v7 := y7) hbw
                    rw [← Hnext.out] at hst
                    have Hfin : Hid (Sha4 w gk gs s0 U (.slice (some ⟨bb, oo, none⟩) U.length cv2) (.int .i64 ((a2 : Int) + 64)) (set8 wx gs y0 y1 y2 y3 y4 y5 y6 y7)) := Lib.hid ⟨i2 + 1, by have := Ha.out; omega, by rw [Ha.out]; rfl, hst⟩
                    clear hst hbw k0 k1 k3 cx1 cx2 cx3
                    go_wp2_with fail
                    exact ⟨Hfin.out, by simp [intOf]; omega⟩
                · obtain rfl : i2 = m := by have := Hm.out; omega
                  have hge : ¬ ((64 * i2 : Nat) : Int) < (U.length : Int) := by have := Hm.out; omega
                  obtain ⟨l, hl⟩ : ∃ l, l = blocks s0 U i2 := ⟨_, rfl⟩
                  have hA := Hat.out.1
                  rw [← hl] at hA HshaP
                  have hl8 : l.length = 8 := by rw [hl]; exact blocks_length _ _ Hs0.out _
                  obtain ⟨x0, x1, x2, x3, x4, x5, x6, x7, hx⟩ := eight hl8
                  have hidx := index_state x0 x1 x2 x3 x4 x5 x6 x7
                  rw [← hx] at hidx
                  have Hidx := Lib.hid hidx
                  have hs := hA.s
                  rw [hx] at hs
                  have cx := blk_cells hs
                  simp only [u32s, List.map_cons, List.map_nil] at cx
                  have cx1 := cx.1
                  have HB := Lib.hid hA.below
                  have Hl8 := Lib.hid hl8
                  clear hA hl hx hs cx hl8 hidx Hat
                  go_wp2_with fail
                  have Hst5 : Hid (Sha5 w l (.int .i64 0) (.slice none 0 0) wr) := Lib.hid ⟨0, by omega, rfl, World.ownsRow_nil _ _ _ _, HB.out⟩
                  clear HB cx1
                  go_loopw [73, 10] (fun kv v wr => Sha5 w l kv v wr) (fun kv _ _ => 8 - (intOf kv).toNat)
                  case atStart => exact Hst5.out
                  case round =>
                    obtain ⟨k, hk, rfl, hown, hB⟩ := hrel
                    obtain ⟨O, hO⟩ : ∃ O, O = (l.take k).flatMap wordBytes := ⟨_, rfl⟩
                    rw [← hO] at hown
                    have hl8 := Hl8.out
                    have hOl : O.length ≤ 32 := by rw [hO, words_length, List.length_take]; omega
                    have hwr := hB.size
                    obtain ⟨Av5, cv5, rfl, _, _, _, _⟩ := own_form hown
                    have Hown := Lib.hid hown
                    have HB := Lib.hid hB
                    have HO := Lib.hid hO
                    clear hown hB hO hl8
                    by_cases hlt : k < 8
                    · have hi0' := Hidx.out k hlt
                      obtain ⟨x, hx⟩ : ∃ x, x = l.getD k 0 := ⟨_, rfl⟩
                      rw [← hx] at hi0'
                      have hk1 : (k : Int) < 8 := by omega
                      have Hx := Lib.hid hx
                      have HwordsX := Lib.hid (word_u8s x)
                      clear hx
                      go_wp2_with (first | (at_builtin; refine wpList_append_own _ rfl _ _ 28 rfl w.heap.size 5 i0 (.int .u8 0) 1 1 Tryd.underlying28 hi0 hz0 hz1 hz2 rfl (by omega) (.slice Av5 O.length cv5) O.length (u8s O) rfl (Hown.out.alloc _) ⟨wr.heap.size, 0, none⟩ 4 4 [.int .u8 ((x : Int) / 16777216 % 256), .int .u8 ((x : Int) / 65536 % 256), .int .u8 ((x : Int) / 256 % 256), .int .u8 ((x : Int) % 256)] rfl rfl (fun j v hv => World.news_of_block (w := wr.alloc _) (heap_alloc_new wr _) j v hv) (by rw [← HwordsX.out]; exact u8s_one _) (by unfold maxLen; omega) (by omega) (by simp; omega) ?_))
                      intro v1 wp hown1 hgrow1 _
                      rw [← HwordsX.out, Hx.out] at hown1
                      have Hfin := Lib.hid (out_step HO.out (by rw [Hl8.out]; exact hlt) Hown.out HB.out hown1 hgrow1)
                      obtain ⟨Av6, cv6, rfl, _, _, _, _⟩ := own_form hown1
                      clear hown1 hgrow1
                      go_wp2_with fail
                      exact ⟨Hfin.out, by simp [intOf]; omega⟩
                    · have hdk5 : decide ((k : Int) < 8) = false := by simp; omega
                      rw [List.take_of_length_le (by rw [Hl8.out]; omega), ← HshaP.out] at HO
                      go_wp2_with fail
                      go_ret
                      rw [HO.out]
                      exact ⟨_, rfl, by rw [← HO.out]; exact Hown.out, HB.out⟩
end Go.Proofs.YtdmladdpbdcpjaaDoor
