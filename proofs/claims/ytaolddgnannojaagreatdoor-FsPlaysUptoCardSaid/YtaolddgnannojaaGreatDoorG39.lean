/-
  Both file systems side by side: what a call of one of them leaves.
  Bytes that are written over one by one.
  Does: Write of both.
  Does: Append of both.
-/
import Derived.Test.YtaolddgnannojaaGreatDoorFsRw2
import Derived.Test.YtaolddgnannojaaGreatDoorG35
import Derived.Test.YtaolddgnannojaaGreatDoorG38
namespace Go.Proofs.YtaolddgnannojaaGreatDoor
open Go.RowKit Go.Maps

structure Pair (K : Nat) (w0 w : World) (M : FsMem) (S : FsSt) (MR : RMem) (R : RSt) : Prop where
  side : Side K w0 w M S MR R
  sim : Sim S R
  inv : RInv K R
theorem Side.mono {K K' : Nat} {w0 w : World} {M : FsMem} {S : FsSt} {MR : RMem} {R : RSt} (h : Side K w0 w M S MR R) (hK : K ≤ K') : Side K' w0 w M S MR R := ⟨h.f.mono hK, h.r, h.own, h.apart, h.ml⟩
theorem Pair.mono {K K' : Nat} {w0 w : World} {M : FsMem} {S : FsSt} {MR : RMem} {R : RSt} (h : Pair K w0 w M S MR R) (hK : K ≤ K') : Pair K' w0 w M S MR R := ⟨h.side.mono hK, h.sim, h.inv.mono hK⟩
theorem Pair.low {K : Nat} {w0 w w' : World} {M : FsMem} {S : FsSt} {MR : RMem} {R : RSt} (h : Pair K w0 w M S MR R) (hb : Below w.heap.size w w') : Pair K w0 w' M S MR R := ⟨h.side.low hb, h.sim, h.inv⟩
theorem Pair.good {K : Nat} {w0 w : World} {M : FsMem} {S : FsSt} {MR : RMem} {R : RSt} (h : Pair K w0 w M S MR R) : FsGood K S := h.side.f.up.good
theorem Pair.lim {K : Nat} {w0 w : World} {M : FsMem} {S : FsSt} {MR : RMem} {R : RSt} (h : Pair K w0 w M S MR R) (hK : K ≤ 1048576) : RLim R := h.sim.lim h.good hK
/-- the package's has been called -/
def LPost (K : Nat) (w0 w : World) (F : List Nat) (fb : Nat) (S : FsSt) (MR : RMem) (R : RSt) (v : Value) (e : Ending) (w' : World) : Prop := e = .returned v ∧ Fr F w w' ∧ ∃ M, Side K w0 w' M S MR R ∧ M.fb = fb
/-- the reference's has been called -/
def TPost (K : Nat) (w0 w : World) (F : List Nat) (M : FsMem) (S : FsSt) (rb : Nat) (R : RSt) (v : Value) (e : Ending) (w' : World) : Prop := e = .returned v ∧ Fr F w w' ∧ ∃ MR, Side K w0 w' M S MR R ∧ MR.rb = rb
theorem Side.lpost {K K' : Nat} {w0 w : World} {M : FsMem} {S S' : FsSt} {MR : RMem} {R : RSt} (h : Side K w0 w M S MR R) {n : Nat} : ∀ (e : Ending) (w' : World), UpPost K' w M S' n e w' → LPost K' w0 w M.own M.fb S' MR R (.int .i64 (n : Nat)) e w' :=
  fun _ _ ⟨he, M', h1, h2⟩ => ⟨he, h2.fr, M', h.left (h.f.next h1 h2) h2, h2.fb⟩
theorem Side.ldone {K K' : Nat} {w0 w : World} {M : FsMem} {S S' : FsSt} {MR : RMem} {R : RSt} (h : Side K w0 w M S MR R) : ∀ (e : Ending) (w' : World), DonePost K' w0 w M S' e w' → LPost K' w0 w M.own M.fb S' MR R (.tuple #[]) e w' :=
  fun _ _ ⟨he, M', h1, h2⟩ => ⟨he, h2.fr, M', h.left h1 h2, h2.fb⟩
theorem Side.tpost {K : Nat} {w0 w : World} {M : FsMem} {S : FsSt} {MR : RMem} {R R' : RSt} (h : Side K w0 w M S MR R) {v : Value} : ∀ (e : Ending) (w' : World), RPost w MR R' v e w' → TPost K w0 w MR.own M S MR.rb R' v e w' :=
  fun _ _ ⟨he, M', h1, h2⟩ => ⟨he, h2.fr, M', h.right h1 h2, h2.rb⟩
/-- both have been called -/
def DoesPost (K : Nat) (w0 : World) (fb rb : Nat) (e : Ending) (w' : World) : Prop := e = .returned (.bool true) ∧ ∃ M S MR R, Pair K w0 w' M S MR R ∧ M.fb = fb ∧ MR.rb = rb
theorem DoesPost.of {K K' : Nat} {w0 w : World} {M : FsMem} {S : FsSt} {MR : RMem} {R : RSt} (h : Side K w0 w M S MR R) (hs : Sim S R) (hi : RInv K' R) (hK : K ≤ K') {fb rb : Nat} (hf : M.fb = fb) (hr : MR.rb = rb) : DoesPost K' w0 fb rb (.returned (.bool true)) w :=
  ⟨rfl, M, S, MR, R, ⟨h.mono hK, hs, hi⟩, hf, hr⟩
/-! ### calls of both, one behind the other -/
theorem Pair.sync {K : Nat} {w0 w : World} {M : FsMem} {S : FsSt} {MR : RMem} {R : RSt} (h : Pair K w0 w M S MR R) (s : ByteArray) (hs : s.size ≤ 1048576) (hK : K + 2 ≤ 1048576) :
    ∃ n S1 R1, Calls Tryz.prog 14 #[.pointer (some ⟨M.fb, 0, none⟩), .string s] w (LPost (K + 2) w0 w M.own M.fb S1 MR R (.int .i64 (n : Nat))) ∧
      (∀ M1 w1, Side (K + 2) w0 w1 M1 S1 MR R → Calls Tryz.prog 34 #[.pointer (some ⟨MR.rb, 0, none⟩), .string s] w1 (TPost (K + 2) w0 w1 MR.own M1 S1 MR.rb R1 (.int .i64 (n : Nat)))) ∧ Sim S1 R1 ∧ RInv (K + 2) R1 := by
  obtain ⟨e1, e2⟩ := sim_sync h.sim h.good s
  have hri := rinv_sync h.inv s
  refine ⟨(S.sync s).1, (S.sync s).2, (R.sync s).2, (up_sync h.side.f.up s hs hK).mono h.side.lpost, fun M1 w1 h1 => ?_, e2, hri.mono (by omega)⟩
  rw [e1]
  exact (rsync_any w1 MR R h1.r (h.lim (by omega)) (h.sim.inRange h.good) s).mono h1.tpost
theorem Pair.remove {K : Nat} {w0 w : World} {M : FsMem} {S : FsSt} {MR : RMem} {R : RSt} (h : Pair K w0 w M S MR R) (s : ByteArray) (hs : s.size ≤ 1048576) (hK : K + 2 ≤ 1048576) :
    ∃ n S1 R1, Calls Tryz.prog 37 #[.pointer (some ⟨M.fb, 0, none⟩), .string s] w (LPost (K + 2) w0 w M.own M.fb S1 MR R (.int .i64 (n : Nat))) ∧
      (∀ M1 w1, Side (K + 2) w0 w1 M1 S1 MR R → Calls Tryz.prog 38 #[.pointer (some ⟨MR.rb, 0, none⟩), .string s] w1 (TPost (K + 2) w0 w1 MR.own M1 S1 MR.rb R1 (.int .i64 (n : Nat)))) ∧ Sim S1 R1 ∧ RInv (K + 2) R1 := by
  obtain ⟨e1, e2⟩ := sim_remove h.sim h.good s
  have hri := rinv_remove h.inv s
  refine ⟨(S.remove s).1, (S.remove s).2, (R.remove s).2, (up_remove h.side.f.up s hs hK).mono h.side.lpost, fun M1 w1 h1 => ?_, e2, hri.mono (by omega)⟩
  rw [e1]
  exact (rremove_any w1 MR R h1.r (h.lim (by omega)) s hs).mono h1.tpost
theorem Pair.rename {K : Nat} {w0 w : World} {M : FsMem} {S : FsSt} {MR : RMem} {R : RSt} (h : Pair K w0 w M S MR R) (a b : ByteArray) (ha : a.size ≤ 1048576) (hb : b.size ≤ 1048576) (hK : K + 2 ≤ 1048576) :
    ∃ n S1 R1, Calls Tryz.prog 35 #[.pointer (some ⟨M.fb, 0, none⟩), .string a, .string b] w (LPost (K + 2) w0 w M.own M.fb S1 MR R (.int .i64 (n : Nat))) ∧
      (∀ M1 w1, Side (K + 2) w0 w1 M1 S1 MR R → Calls Tryz.prog 36 #[.pointer (some ⟨MR.rb, 0, none⟩), .string a, .string b] w1 (TPost (K + 2) w0 w1 MR.own M1 S1 MR.rb R1 (.int .i64 (n : Nat)))) ∧ Sim S1 R1 ∧ RInv (K + 2) R1 := by
  obtain ⟨e1, e2⟩ := sim_rename h.sim h.good a b
  have hri := rinv_rename h.inv a b
  refine ⟨(S.rename a b).1, (S.rename a b).2, (R.rename a b).2, (up_rename h.side.f.up a b ha hb hK).mono h.side.lpost, fun M1 w1 h1 => ?_, e2, hri.mono (by omega)⟩
  rw [e1]
  exact (rrename_any w1 MR R h1.r (h.lim (by omega)) a b hb).mono h1.tpost
theorem Pair.syncdir {K : Nat} {w0 w : World} {M : FsMem} {S : FsSt} {MR : RMem} {R : RSt} (h : Pair K w0 w M S MR R) (s : ByteArray) (hs : s.size ≤ 1048576) (hK : K + 2 ≤ 1048576) :
    ∃ n S1 R1, Calls Tryz.prog 15 #[.pointer (some ⟨M.fb, 0, none⟩), .string s] w (LPost (K + 2) w0 w M.own M.fb S1 MR R (.int .i64 (n : Nat))) ∧
      (∀ M1 w1, Side (K + 2) w0 w1 M1 S1 MR R → Calls Tryz.prog 39 #[.pointer (some ⟨MR.rb, 0, none⟩), .string s] w1 (TPost (K + 2) w0 w1 MR.own M1 S1 MR.rb R1 (.int .i64 (n : Nat)))) ∧ Sim S1 R1 ∧ RInv (K + 2) R1 := by
  obtain ⟨e1, e2⟩ := sim_syncdir h.sim h.good s
  have hri := rinv_syncdir h.inv s
  refine ⟨(S.syncdir s).1, (S.syncdir s).2, (R.syncdir s).2, (up_syncdir h.side.f.up s hs hK).mono h.side.lpost, fun M1 w1 h1 => ?_, e2, hri.mono (by omega)⟩
  rw [e1]
  exact (rsyncdir_any w1 MR R h1.r (h.lim (by omega)) (fun j => h.sim.durs h.good j) h.sim.pends s hs).mono h1.tpost
theorem Side.outR {K : Nat} {w0 w : World} {M : FsMem} {S : FsSt} {MR : RMem} {R : RSt} (h : Side K w0 w M S MR R) {A : Option Addr} {c : Nat} {d : List UInt8} (hb : Bs w0 A c d) : 0 < d.length → ∀ a, A = some a → a.block ∉ MR.own := fun hn a ha hh => by
  obtain ⟨b, o, hA, hc⟩ := hb.cells hn
  rw [ha] at hA
  cases hA
  have h1 := World.block_lt_of_cell? w0 ⟨b, o + 0, none⟩ ((hc 0 (by omega)).trans (u8s_at hn))
  have h2 := h.own _ hh
  simp only at h1 h2
  omega
theorem Pair.write {K : Nat} {w0 w : World} {M : FsMem} {S : FsSt} {MR : RMem} {R : RSt} (h : Pair K w0 w M S MR R) (s : ByteArray) (hs : s.size ≤ 1048576) (d : List UInt8) (hK : K + 2 + d.length ≤ 1048576) (A : Option Addr) (c : Nat) (hb : Bs w0 A c d) :
    ∃ n S1 R1, (∀ A' c', Bs w A' c' d → Out M A' d → Calls Tryz.prog 9 #[.pointer (some ⟨M.fb, 0, none⟩), .string s, .slice A' d.length c'] w (fun e w' => UpPost (K + 2 + d.length) w M S1 n e w')) ∧
      (∀ M1 w1, Side (K + 2 + d.length) w0 w1 M1 S1 MR R → Calls Tryz.prog 31 #[.pointer (some ⟨MR.rb, 0, none⟩), .string s, .slice A d.length c] w1 (fun e w' => RPost w1 MR R1 (.int .i64 (n : Nat)) e w')) ∧ Sim S1 R1 ∧ RInv (K + 2 + d.length) R1 := by
  obtain ⟨e1, e2⟩ := sim_write h.sim h.good s d
  have hri := rinv_write h.inv s d
  refine ⟨(S.write s d).1, (S.write s d).2, (R.write s d).2, fun A' c' hb' ho' => up_write h.side.f.up s hs d hK A' c' hb' ho', fun M1 w1 h1 => ?_, e2, hri.mono (by omega)⟩
  rw [e1]
  have hq := h.good.inv.quota
  have hrm := h.sim.room
  exact rwrite_any w1 MR R h1.r (h.lim (by omega)) (h.sim.inRange h.good) (h.sim.sizeLe h.good (by omega)) (by omega) (fun i => by have := (h.inv.at_ i).2; omega) s hs d A c (h1.f.bs hb) (h1.outR hb) (by omega)
theorem Pair.append {K : Nat} {w0 w : World} {M : FsMem} {S : FsSt} {MR : RMem} {R : RSt} (h : Pair K w0 w M S MR R) (s : ByteArray) (hs : s.size ≤ 1048576) (d : List UInt8) (hK : K + 2 + d.length ≤ 1048576) (A : Option Addr) (c : Nat) (hb : Bs w0 A c d) :
    ∃ n S1 R1, (∀ A' c', Bs w A' c' d → Out M A' d → Calls Tryz.prog 13 #[.pointer (some ⟨M.fb, 0, none⟩), .string s, .slice A' d.length c'] w (fun e w' => UpPost (K + 2 + d.length) w M S1 n e w')) ∧
      (∀ M1 w1, Side (K + 2 + d.length) w0 w1 M1 S1 MR R → Calls Tryz.prog 32 #[.pointer (some ⟨MR.rb, 0, none⟩), .string s, .slice A d.length c] w1 (fun e w' => RPost w1 MR R1 (.int .i64 (n : Nat)) e w')) ∧ Sim S1 R1 ∧ RInv (K + 2 + d.length) R1 := by
  obtain ⟨e1, e2⟩ := sim_append h.sim h.good s d
  have hri := rinv_append h.inv s d
  refine ⟨(S.append s d).1, (S.append s d).2, (R.append s d).2, fun A' c' hb' ho' => up_append h.side.f.up s hs d hK A' c' hb' ho', fun M1 w1 h1 => ?_, e2, hri.mono (by omega)⟩
  rw [e1]
  have hq := h.good.inv.quota
  have hrm := h.sim.room
  exact rappend_any w1 MR R h1.r (h.lim (by omega)) (h.sim.inRange h.good) (h.sim.sizeLe h.good (by omega)) (by omega) (fun i => by have := (h.inv.at_ i).2; omega) s d A c (h1.f.bs hb) (h1.outR hb) (by omega)
theorem Pair.arm {K : Nat} {w0 w : World} {M : FsMem} {S : FsSt} {MR : RMem} {R : RSt} (h : Pair K w0 w M S MR R) (n : Int) (hn : n ≤ 9223372036854775807) :
    Calls Tryz.prog 40 #[.pointer (some ⟨M.fb, 0, none⟩), .int .i64 n] w (LPost K w0 w M.own M.fb { S with armed := (max n 0).toNat } MR R (.tuple #[])) :=
  (h.side.f.arm n hn).mono h.side.ldone
theorem Pair.crash {K : Nat} {w0 w : World} {M : FsMem} {S : FsSt} {MR : RMem} {R : RSt} (h : Pair K w0 w M S MR R) (hK : K ≤ 1048576) (n m : Int) (hn : n ≤ 9223372036854775807) (hm : m ≤ 9223372036854775807) :
    Calls Tryz.prog 10 #[.pointer (some ⟨M.fb, 0, none⟩), .int .i64 n, .int .i64 m] w (LPost K w0 w M.own M.fb (S.crash n m) MR R (.tuple #[])) ∧
      (∀ (M1 : FsMem) (w1 : World), Side K w0 w1 M1 (S.crash n m) MR R → Calls Tryz.prog 41 #[.pointer (some ⟨MR.rb, 0, none⟩), .int .i64 n, .int .i64 m] w1 (TPost K w0 w1 MR.own M1 (S.crash n m) MR.rb (R.crash n m) (.tuple #[]))) ∧ Sim (S.crash n m) (R.crash n m) ∧ RInv K (R.crash n m) :=
  ⟨(h.side.f.crash hK n m hn hm).mono h.side.ldone, fun _ w1 h1 => (rcrash_any w1 MR R h1.r (h.lim hK) (fun j => h.sim.durs h.good j) h.sim.pends (h.inv.mono hK) n m hn hm).mono h1.tpost, sim_crash h.sim h.good n m, rinv_crash h.inv n m⟩
end Go.Proofs.YtaolddgnannojaaGreatDoor
namespace Go.Proofs.YtaolddgnannojaaGreatDoor
open Go.RowKit Go.Maps

/-- so many bytes of a block have been written over -/
def PokeRel (w : World) (g n : Nat) (iv : Value) (wr : World) : Prop :=
  ∃ (k : Nat) (cs : Array Value), k ≤ n ∧ iv = .int .i64 (k : Nat) ∧ wr.heap[g]? = some (.cells cs 5 (0, 0)) ∧ n ≤ cs.size ∧ Fr [g] w wr
theorem PokeRel.next {w wr : World} {g n k : Nat} {cs : Array Value} (hk : k < n) (hg : wr.heap[g]? = some (.cells cs 5 (0, 0))) (hn : n ≤ cs.size) (hf : Fr [g] w wr) (u : Value) : PokeRel w g n (.int .i64 ((k : Int) + 1)) (wr.setCell ⟨g, k, none⟩ u) :=
  ⟨k + 1, _, hk, by simp, heap_setCell_at hg k u, by simpa using hn, hf.trans (Fr.setCell _ _ _ _ (by simp))⟩
theorem noBox_u8 {w : World} {g : Nat} {cs : Array Value} (h : w.heap[g]? = some (.cells cs 5 (0, 0))) : NoBox w g := fun cs' t ht => by
  rw [h] at ht
  simp only [Option.some.injEq, Obj.cells.injEq] at ht
  obtain ⟨_, rfl, _⟩ := ht
  exact ⟨by decide, by decide⟩
end Go.Proofs.YtaolddgnannojaaGreatDoor
namespace Go.Proofs.YtaolddgnannojaaGreatDoor
open Go.RowKit Go.Maps

attribute [local go_sem] lt1 lt2 lt3 lt4 lt5 lt6

set_option maxHeartbeats 8000000 in
set_option maxRecDepth 100000 in
theorem does_write {K : Nat} {w0 w : World} {M : FsMem} {S : FsSt} {MR : RMem} {R : RSt} (h : Pair K w0 w M S MR R) (o : OpC) (ho : OpOk o) (hk : o.kind = 0) (hK : K + 2 + o.b.length ≤ 1048576) (A : Option Addr) (c : Nat) (hbs : Bs w0 A c o.b) :
    Calls Tryz.prog 11 #[.pointer (some ⟨M.fb, 0, none⟩), .pointer (some ⟨MR.rb, 0, none⟩), .agg (opCells o A c)] w (DoesPost (K + 2 + o.b.length) w0 M.fb MR.rb) := by
  obtain ⟨P, hP⟩ : ∃ P, P = DoesPost (K + 2 + o.b.length) w0 M.fb MR.rb := ⟨_, rfl⟩
  rw [← hP]
  have HP := Lib.hid hP
  obtain ⟨kind, n, m, name, to, b⟩ := o
  have hnm := ho.name
  simp only at hk hnm hK hbs HP
  have k0 : (kind == 0) = true := by simp only [beq_iff_eq]; omega
  have hb0 : Below w.heap.size w (w.alloc (.cells (opCells ⟨kind, n, m, name, to, b⟩ A c) 31)) := (Below.refl _ _).alloc (Nat.le_refl _) _
  have h0 := h.low hb0
  have hnew := heap_alloc_new w (.cells (opCells ⟨kind, n, m, name, to, b⟩ A c) 31)
  have hne : w.heap.size ∉ M.own ∧ w.heap.size ∉ MR.own := ⟨fun hh => by have := h.side.f.up.at_.lt _ hh; omega, fun hh => by have := h.side.r.lt _ hh; omega⟩
  unfold opCells at h0 hnew ⊢
  simp only at h0 hnew ⊢
  obtain ⟨fb, hfb⟩ : ∃ fb, fb = M.fb := ⟨_, rfl⟩
  obtain ⟨rb, hrb⟩ : ∃ rb, rb = MR.rb := ⟨_, rfl⟩
  rw [← hfb, ← hrb] at HP ⊢
  have Hne := Lib.hid hne
  have H0 := Lib.hid h0
  have Hfb := Lib.hid hfb
  have Hrb := Lib.hid hrb
  have Hbs := Lib.hid hbs
  have Hnew := Lib.hid hnew
  clear h h0 hb0 hP hfb hrb hk ho hne hbs hnew
  go_enter Tryz.func11, Tryz.ntmps11
  go_wp2_with fail
  generalize w.alloc (.cells #[.int .i64 kind, .int .i64 n, .int .i64 m, .string name, .string to, .slice A b.length c] 31) = w1 at *
  obtain ⟨ob, hob⟩ : ∃ ob, ob = w.heap.size := ⟨_, rfl⟩
  rw [← hob] at Hnew Hne ⊢
  clear hob
  refine (lent_any b A c w1 (by omega) (H0.out.side.f.bs Hbs.out)).mono ?_
  rintro e w2 ⟨g, cap, rfl, hlent, hb2⟩
  have H2 := Lib.hid (H0.out.low hb2)
  have hn2 := (hb2.block _ (lt_of_heap Hnew.out)).trans Hnew.out
  have Hn2 := Lib.hid hn2
  have hg1 : w1.heap.size ≤ g := (own_blk hlent g rfl).1
  have hgl : g < w2.heap.size := by obtain ⟨_, cur, hc⟩ := own_blk hlent g rfl; exact lt_of_heap hc
  have hgn : g ∉ M.own ∧ g ∉ MR.own := ⟨fun hh => by have := H0.out.side.f.up.at_.lt _ hh; omega, fun hh => by have := H0.out.side.r.lt _ hh; omega⟩
  obtain ⟨e, S1, R1, c1, c2, hsim, hinv⟩ := H2.out.write name hnm b hK A c Hbs.out
  have hgo : g ≠ ob := fun e => by have := lt_of_heap Hnew.out; omega
  have c1 := c1 _ cap hlent.bs (fun _ a ha hh => by cases ha; exact hgn.1 hh)
  have hg0 : w0.heap.size ≤ g := Nat.le_trans H0.out.side.f.below.size hg1
  rw [← Hfb.out] at c1
  rw [← Hrb.out] at c2
  have Hc1 := Lib.hid c1
  have Hc2 := Lib.hid c2
  have Hsi := Lib.hid (And.intro hsim hinv)
  have Hl := Lib.hid hlent
  have Hgn := Lib.hid hgn
  have q0 : w2.cell? ⟨ob, 0, none⟩ = some (.int .i64 kind) := (blk_cells hn2).1 0
  have q3 : w2.cell? ⟨ob, 3, none⟩ = some (.string name) := (blk_cells hn2).1 3
  have q5 : w2.cell? ⟨ob, 5, none⟩ = some (.slice A b.length c) := (blk_cells hn2).1 5
  clear c1 c2 hsim hinv hlent hgn hn2 hb2 H0 Hnew
  go_wp2_with fail
  refine Hc1.out.mono ?_
  rintro _ w3 ⟨rfl, M1, hu1, g1⟩
  have h1 := H2.out.side.left (H2.out.side.f.next hu1 g1) g1
  have hn3 := (g1.fr.block _ (lt_of_heap Hn2.out) Hne.out.1).trans Hn2.out
  have hl3 := row_kept Hl.out g1.fr fun k hk => by cases hk; exact Hgn.out.1
  have hgn3 : g ∉ M1.own := fun hh => by
    rcases g1.new g hh with h | h
    · exact Hgn.out.1 h
    · omega
  have hfb1 : M1.fb = fb := by rw [g1.fb]; exact Hfb.out.symm
  have Hc3 := Lib.hid (Hc2.out M1 w3 h1)
  have Hh1 := Lib.hid h1
  have Hn3 := Lib.hid hn3
  have Hl3 := Lib.hid hl3
  have hgl3 : g < w3.heap.size := Nat.lt_of_lt_of_le hgl g1.fr.size
  have Hm1 := Lib.hid (And.intro hgn3 hfb1)
  have q0 : w3.cell? ⟨ob, 0, none⟩ = some (.int .i64 kind) := (blk_cells hn3).1 0
  have q3 : w3.cell? ⟨ob, 3, none⟩ = some (.string name) := (blk_cells hn3).1 3
  have q5 : w3.cell? ⟨ob, 5, none⟩ = some (.slice A b.length c) := (blk_cells hn3).1 5
  clear h1 hu1 g1 hn3 hl3 hgn3 hfb1 Hc1 Hc2 Hn2 Hl
  go_wp2_with fail
  refine Hc3.out.mono ?_
  rintro _ w4 ⟨rfl, MR1, hr1, g2⟩
  have h2 := Hh1.out.right hr1 g2
  have hn4 := (g2.fr.block _ (lt_of_heap Hn3.out) Hne.out.2).trans Hn3.out
  have hl4 : LentAt w4 w1.heap.size g cap b := row_kept Hl3.out g2.fr fun k hk => by cases hk; exact Hgn.out.2
  have hgn4 : g ∉ MR1.own := fun hh => by
    rcases g2.new g hh with h | h
    · exact Hgn.out.2 h
    · omega
  have hrb1 : MR1.rb = rb := by rw [g2.rb]; exact Hrb.out.symm
  have Hh2 := Lib.hid h2
  have Hl4 := Lib.hid hl4
  have Hm2 := Lib.hid (And.intro hgn4 hrb1)
  have q0 : w4.cell? ⟨ob, 0, none⟩ = some (.int .i64 kind) := (blk_cells hn4).1 0
  have q3 : w4.cell? ⟨ob, 3, none⟩ = some (.string name) := (blk_cells hn4).1 3
  have q5 : w4.cell? ⟨ob, 5, none⟩ = some (.slice A b.length c) := (blk_cells hn4).1 5
  clear h2 hr1 g2 hn4 hl4 hgn4 hrb1 Hc3 Hh1 Hn3 Hl3
  go_wp2_with fail
  refine (kept_any b _ g cap A c w4 (by omega) Hl4.out (Hh2.out.f.bs Hbs.out)).mono ?_
  rintro _ w5 ⟨rfl, n5, hw5⟩
  obtain ⟨_, cur, hcur⟩ := own_blk Hl4.out g rfl
  have hcs : b.length ≤ cur.size := by
    obtain ⟨_, h | ⟨g', cap', cur', e1, _, e2, e3, _, e5, _⟩⟩ := Hl4.out
    · simp at h
    · simp only [Value.slice.injEq, Option.some.injEq, Addr.mk.injEq] at e1
      obtain ⟨⟨rfl, _⟩, _, rfl⟩ := e1
      rw [hcur] at e2
      simp only [Option.some.injEq, Obj.cells.injEq] at e2
      obtain ⟨rfl, _⟩ := e2
      omega
  have hb5 : Below w4.heap.size w4 w5 := by rw [hw5]; exact ⟨rfl, rfl, rfl, Nat.le_refl _, fun _ _ => rfl⟩
  have H5 := Lib.hid (Hh2.out.low hb5)
  have h05 : Hid (PokeRel w5 g b.length (.int .i64 0) w5) := Lib.hid ⟨0, cur, by omega, rfl, by rw [hw5]; exact hcur, hcs, Fr.refl _ _⟩
  have Hbox : Hid (NoBox w5 g) := Lib.hid (noBox_u8 (by rw [hw5]; exact hcur))
  have hbl : b.length ≤ 1048576 := by omega
  obtain ⟨bl, hblE⟩ : ∃ bl, bl = b.length := ⟨_, rfl⟩
  rw [← hblE] at h05 hbl ⊢
  clear hcur hcs hw5 hb5 Hl4 Hh2 hblE
  go_wp2_with fail
  go_loopw [11] (fun iv wr => PokeRel w5 g bl iv wr) (fun iv _ => bl - (intOf iv).toNat)
  case atStart => exact h05.out
  case round =>
    clear h05
    obtain ⟨k, cs, hkn, rfl, hg, hcs, hfr⟩ := hrel
    by_cases hlt : k < bl
    · have hlI : (k : Int) < bl := by omega
      obtain ⟨u, c9⟩ : ∃ u, wr.cell? ⟨g, k, none⟩ = some u := ⟨_, ((blk_cells hg).1 k).trans (Array.getElem?_eq_getElem (by omega))⟩
      have f1 := (blk_cells hg).2.1 k
      have Hnx := Lib.hid (PokeRel.next hlt hg hcs hfr (.int .u8 99))
      clear hg hcs hfr
      go_wp2_with fail
      go_roundw
      case rel => exact Hnx.out
      case measure => simp [intOf]; omega
    · have hlI : ¬ (k : Int) < bl := by omega
      have Hend : Hid (P (.returned (.bool true)) wr) := Lib.hid (by
        rw [HP.out]
        have h6 := H5.out.poke hfr Hbox.out Hm1.out.1 Hm2.out.1 hg0
        exact DoesPost.of h6 Hsi.out.1 Hsi.out.2 (Nat.le_refl _) Hm1.out.2 Hm2.out.2)
      clear hg hcs hfr
      go_wp2_with fail
      refine (num_any (e : Int) wr).mono ?_
      rintro _ w6 ⟨rfl, rfl⟩
      go_wp2_with fail
      exact Hend.out
end Go.Proofs.YtaolddgnannojaaGreatDoor
namespace Go.Proofs.YtaolddgnannojaaGreatDoor
open Go.RowKit Go.Maps

attribute [local go_sem] lt1 lt2 lt3 lt4 lt5 lt6

set_option maxHeartbeats 8000000 in
set_option maxRecDepth 100000 in
theorem does_append {K : Nat} {w0 w : World} {M : FsMem} {S : FsSt} {MR : RMem} {R : RSt} (h : Pair K w0 w M S MR R) (o : OpC) (ho : OpOk o) (hk : o.kind = 1) (hK : K + 2 + o.b.length ≤ 1048576) (A : Option Addr) (c : Nat) (hbs : Bs w0 A c o.b) :
    Calls Tryz.prog 11 #[.pointer (some ⟨M.fb, 0, none⟩), .pointer (some ⟨MR.rb, 0, none⟩), .agg (opCells o A c)] w (DoesPost (K + 2 + o.b.length) w0 M.fb MR.rb) := by
  obtain ⟨P, hP⟩ : ∃ P, P = DoesPost (K + 2 + o.b.length) w0 M.fb MR.rb := ⟨_, rfl⟩
  rw [← hP]
  have HP := Lib.hid hP
  obtain ⟨kind, n, m, name, to, b⟩ := o
  have hnm := ho.name
  simp only at hk hnm hK hbs HP
  have k0 : (kind == 0) = false := by simp only [beq_eq_false_iff_ne]; omega
  have k1 : (kind == 1) = true := by simp only [beq_iff_eq]; omega
  have hb0 : Below w.heap.size w (w.alloc (.cells (opCells ⟨kind, n, m, name, to, b⟩ A c) 31)) := (Below.refl _ _).alloc (Nat.le_refl _) _
  have h0 := h.low hb0
  have hnew := heap_alloc_new w (.cells (opCells ⟨kind, n, m, name, to, b⟩ A c) 31)
  have hne : w.heap.size ∉ M.own ∧ w.heap.size ∉ MR.own := ⟨fun hh => by have := h.side.f.up.at_.lt _ hh; omega, fun hh => by have := h.side.r.lt _ hh; omega⟩
  unfold opCells at h0 hnew ⊢
  simp only at h0 hnew ⊢
  obtain ⟨fb, hfb⟩ : ∃ fb, fb = M.fb := ⟨_, rfl⟩
  obtain ⟨rb, hrb⟩ : ∃ rb, rb = MR.rb := ⟨_, rfl⟩
  rw [← hfb, ← hrb] at HP ⊢
  have Hne := Lib.hid hne
  have H0 := Lib.hid h0
  have Hfb := Lib.hid hfb
  have Hrb := Lib.hid hrb
  have Hbs := Lib.hid hbs
  have Hnew := Lib.hid hnew
  clear h h0 hb0 hP hfb hrb hk ho hne hbs hnew
  go_enter Tryz.func11, Tryz.ntmps11
  go_wp2_with fail
  generalize w.alloc (.cells #[.int .i64 kind, .int .i64 n, .int .i64 m, .string name, .string to, .slice A b.length c] 31) = w1 at *
  obtain ⟨ob, hob⟩ : ∃ ob, ob = w.heap.size := ⟨_, rfl⟩
  rw [← hob] at Hnew Hne ⊢
  clear hob
  refine (lent_any b A c w1 (by omega) (H0.out.side.f.bs Hbs.out)).mono ?_
  rintro e w2 ⟨g, cap, rfl, hlent, hb2⟩
  have H2 := Lib.hid (H0.out.low hb2)
  have hn2 := (hb2.block _ (lt_of_heap Hnew.out)).trans Hnew.out
  have Hn2 := Lib.hid hn2
  have hg1 : w1.heap.size ≤ g := (own_blk hlent g rfl).1
  have hgl : g < w2.heap.size := by obtain ⟨_, cur, hc⟩ := own_blk hlent g rfl; exact lt_of_heap hc
  have hgn : g ∉ M.own ∧ g ∉ MR.own := ⟨fun hh => by have := H0.out.side.f.up.at_.lt _ hh; omega, fun hh => by have := H0.out.side.r.lt _ hh; omega⟩
  obtain ⟨e, S1, R1, c1, c2, hsim, hinv⟩ := H2.out.append name hnm b hK A c Hbs.out
  have hgo : g ≠ ob := fun e => by have := lt_of_heap Hnew.out; omega
  have c1 := c1 _ cap hlent.bs (fun _ a ha hh => by cases ha; exact hgn.1 hh)
  have hg0 : w0.heap.size ≤ g := Nat.le_trans H0.out.side.f.below.size hg1
  rw [← Hfb.out] at c1
  rw [← Hrb.out] at c2
  have Hc1 := Lib.hid c1
  have Hc2 := Lib.hid c2
  have Hsi := Lib.hid (And.intro hsim hinv)
  have Hl := Lib.hid hlent
  have Hgn := Lib.hid hgn
  have q0 : w2.cell? ⟨ob, 0, none⟩ = some (.int .i64 kind) := (blk_cells hn2).1 0
  have q3 : w2.cell? ⟨ob, 3, none⟩ = some (.string name) := (blk_cells hn2).1 3
  have q5 : w2.cell? ⟨ob, 5, none⟩ = some (.slice A b.length c) := (blk_cells hn2).1 5
  clear c1 c2 hsim hinv hlent hgn hn2 hb2 H0 Hnew
  go_wp2_with fail
  refine Hc1.out.mono ?_
  rintro _ w3 ⟨rfl, M1, hu1, g1⟩
  have h1 := H2.out.side.left (H2.out.side.f.next hu1 g1) g1
  have hn3 := (g1.fr.block _ (lt_of_heap Hn2.out) Hne.out.1).trans Hn2.out
  have hl3 := row_kept Hl.out g1.fr fun k hk => by cases hk; exact Hgn.out.1
  have hgn3 : g ∉ M1.own := fun hh => by
    rcases g1.new g hh with h | h
    · exact Hgn.out.1 h
    · omega
  have hfb1 : M1.fb = fb := by rw [g1.fb]; exact Hfb.out.symm
  have Hc3 := Lib.hid (Hc2.out M1 w3 h1)
  have Hh1 := Lib.hid h1
  have Hn3 := Lib.hid hn3
  have Hl3 := Lib.hid hl3
  have hgl3 : g < w3.heap.size := Nat.lt_of_lt_of_le hgl g1.fr.size
  have Hm1 := Lib.hid (And.intro hgn3 hfb1)
  have q0 : w3.cell? ⟨ob, 0, none⟩ = some (.int .i64 kind) := (blk_cells hn3).1 0
  have q3 : w3.cell? ⟨ob, 3, none⟩ = some (.string name) := (blk_cells hn3).1 3
  have q5 : w3.cell? ⟨ob, 5, none⟩ = some (.slice A b.length c) := (blk_cells hn3).1 5
  clear h1 hu1 g1 hn3 hl3 hgn3 hfb1 Hc1 Hc2 Hn2 Hl
  go_wp2_with fail
  refine Hc3.out.mono ?_
  rintro _ w4 ⟨rfl, MR1, hr1, g2⟩
  have h2 := Hh1.out.right hr1 g2
  have hn4 := (g2.fr.block _ (lt_of_heap Hn3.out) Hne.out.2).trans Hn3.out
  have hl4 : LentAt w4 w1.heap.size g cap b := row_kept Hl3.out g2.fr fun k hk => by cases hk; exact Hgn.out.2
  have hgn4 : g ∉ MR1.own := fun hh => by
    rcases g2.new g hh with h | h
    · exact Hgn.out.2 h
    · omega
  have hrb1 : MR1.rb = rb := by rw [g2.rb]; exact Hrb.out.symm
  have Hh2 := Lib.hid h2
  have Hl4 := Lib.hid hl4
  have Hm2 := Lib.hid (And.intro hgn4 hrb1)
  have q0 : w4.cell? ⟨ob, 0, none⟩ = some (.int .i64 kind) := (blk_cells hn4).1 0
  have q3 : w4.cell? ⟨ob, 3, none⟩ = some (.string name) := (blk_cells hn4).1 3
  have q5 : w4.cell? ⟨ob, 5, none⟩ = some (.slice A b.length c) := (blk_cells hn4).1 5
  clear h2 hr1 g2 hn4 hl4 hgn4 hrb1 Hc3 Hh1 Hn3 Hl3
  go_wp2_with fail
  refine (kept_any b _ g cap A c w4 (by omega) Hl4.out (Hh2.out.f.bs Hbs.out)).mono ?_
  rintro _ w5 ⟨rfl, n5, hw5⟩
  obtain ⟨_, cur, hcur⟩ := own_blk Hl4.out g rfl
  have hcs : b.length ≤ cur.size := by
    obtain ⟨_, h | ⟨g', cap', cur', e1, _, e2, e3, _, e5, _⟩⟩ := Hl4.out
    · simp at h
    · simp only [Value.slice.injEq, Option.some.injEq, Addr.mk.injEq] at e1
      obtain ⟨⟨rfl, _⟩, _, rfl⟩ := e1
      rw [hcur] at e2
      simp only [Option.some.injEq, Obj.cells.injEq] at e2
      obtain ⟨rfl, _⟩ := e2
      omega
  have hb5 : Below w4.heap.size w4 w5 := by rw [hw5]; exact ⟨rfl, rfl, rfl, Nat.le_refl _, fun _ _ => rfl⟩
  have H5 := Lib.hid (Hh2.out.low hb5)
  have h05 : Hid (PokeRel w5 g b.length (.int .i64 0) w5) := Lib.hid ⟨0, cur, by omega, rfl, by rw [hw5]; exact hcur, hcs, Fr.refl _ _⟩
  have Hbox : Hid (NoBox w5 g) := Lib.hid (noBox_u8 (by rw [hw5]; exact hcur))
  have hbl : b.length ≤ 1048576 := by omega
  obtain ⟨bl, hblE⟩ : ∃ bl, bl = b.length := ⟨_, rfl⟩
  rw [← hblE] at h05 hbl ⊢
  clear hcur hcs hw5 hb5 Hl4 Hh2 hblE
  go_wp2_with fail
  go_loopw [11] (fun iv wr => PokeRel w5 g bl iv wr) (fun iv _ => bl - (intOf iv).toNat)
  case atStart => exact h05.out
  case round =>
    clear h05
    obtain ⟨k, cs, hkn, rfl, hg, hcs, hfr⟩ := hrel
    by_cases hlt : k < bl
    · have hlI : (k : Int) < bl := by omega
      obtain ⟨u, c9⟩ : ∃ u, wr.cell? ⟨g, k, none⟩ = some u := ⟨_, ((blk_cells hg).1 k).trans (Array.getElem?_eq_getElem (by omega))⟩
      have f1 := (blk_cells hg).2.1 k
      have Hnx := Lib.hid (PokeRel.next hlt hg hcs hfr (.int .u8 99))
      clear hg hcs hfr
      go_wp2_with fail
      go_roundw
      case rel => exact Hnx.out
      case measure => simp [intOf]; omega
    · have hlI : ¬ (k : Int) < bl := by omega
      have Hend : Hid (P (.returned (.bool true)) wr) := Lib.hid (by
        rw [HP.out]
        have h6 := H5.out.poke hfr Hbox.out Hm1.out.1 Hm2.out.1 hg0
        exact DoesPost.of h6 Hsi.out.1 Hsi.out.2 (Nat.le_refl _) Hm1.out.2 Hm2.out.2)
      clear hg hcs hfr
      go_wp2_with fail
      refine (num_any (e : Int) wr).mono ?_
      rintro _ w6 ⟨rfl, rfl⟩
      go_wp2_with fail
      exact Hend.out
end Go.Proofs.YtaolddgnannojaaGreatDoor
