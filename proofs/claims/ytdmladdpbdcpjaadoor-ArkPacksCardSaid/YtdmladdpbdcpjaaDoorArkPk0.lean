/-
  The archive as plain bytes; what the package's writer and the list of the places hold while it is made. (Printed by wip/abexp.py.)
-/
import Derived.Test.YtdmladdpbdcpjaaDoorArkP0
import Derived.Laws.AppendOwnNone
import Derived.Test.YtdmladdpbdcpjaaDoorArkCrc
namespace Go.Proofs.YtdmladdpbdcpjaaDoor
open Go.RowKit

set_option linter.unusedSimpArgs false

attribute [local go_sem] lt1 lt2 lt3 lt4 lt5 lt6

/-! ### the archive -/
def locB (p : Fl) : List UInt8 := [80, 75, 3, 4] ++ lesB 2 [20, 0, 0, 0, 33] ++ lesB 4 [crcOf p.2, p.2.length, p.2.length] ++ lesB 2 [p.1.size, 0] ++ toL p.1 ++ p.2
def locsB (l : List Fl) : List UInt8 := l.flatMap locB
def begs (l : List Fl) (i : Nat) : Nat := (locsB (l.take i)).length
def cenB (p : Fl) (b : Nat) : List UInt8 := [80, 75, 1, 2] ++ lesB 2 [20, 20, 0, 0, 0, 33] ++ lesB 4 [crcOf p.2, p.2.length, p.2.length] ++ lesB 2 [p.1.size, 0, 0, 0, 0] ++ lesB 4 [0, b] ++ toL p.1
def censB (l : List Fl) (k : Nat) : List UInt8 := (List.range k).flatMap fun i => cenB (l.getD i noFl) (begs l i)
def endB (n size start : Nat) : List UInt8 := [80, 75, 5, 6] ++ lesB 2 [0, 0, n, n] ++ lesB 4 [size, start] ++ lesB 2 [0]
def packB (l : List Fl) : List UInt8 := locsB l ++ censB l l.length ++ endB l.length (censB l l.length).length (locsB l).length
theorem Bs_below {w w' : World} {A : Option Addr} {c : Nat} {x : List UInt8} (h : Bs w A c x) (hb : Below w.heap.size w w') : Bs w' A c x := h.keep (Cells.of_below hb)
theorem toL_length (s : ByteArray) : (toL s).length = s.size := by simp [toL]
theorem locB_len (p : Fl) : (locB p).length = 30 + p.1.size + p.2.length := by
  simp only [locB, List.length_append, lesB_length, List.length_cons, List.length_nil, toL_length]
theorem cenB_len (p : Fl) (b : Nat) : (cenB p b).length = 46 + p.1.size := by
  simp only [cenB, List.length_append, lesB_length, List.length_cons, List.length_nil, toL_length]
theorem locsB_take {l : List Fl} {i : Nat} (h : i < l.length) : locsB (l.take (i + 1)) = locsB (l.take i) ++ locB (l.getD i noFl) := by
  unfold locsB
  rw [List.take_succ_eq_append_getElem h, List.flatMap_append]
  simp [List.getD_eq_getElem?_getD, h]
theorem censB_succ (l : List Fl) (k : Nat) : censB l (k + 1) = censB l k ++ cenB (l.getD k noFl) (begs l k) := by
  unfold censB
  rw [List.range_succ, List.flatMap_append]
  simp
theorem locsB_bound (l : List Fl) (N D : Nat) (hs : ∀ p ∈ l, p.1.size ≤ N) (hd : ∀ p ∈ l, p.2.length ≤ D) : ∀ i, i ≤ l.length → (locsB (l.take i)).length ≤ i * (30 + N + D)
  | 0, _ => by simp [locsB]
  | i + 1, h => by
    have ih := locsB_bound l N D hs hd i (by omega)
    rw [locsB_take (by omega), List.length_append, locB_len, Nat.add_mul, Nat.one_mul]
    have hm : l.getD i noFl ∈ l := List.mem_of_getElem? (getD_some (by omega))
    have h1 := hs _ hm
    have h2 := hd _ hm
    omega
theorem censB_bound (l : List Fl) (N : Nat) (hs : ∀ p ∈ l, p.1.size ≤ N) : ∀ i, i ≤ l.length → (censB l i).length ≤ i * (46 + N)
  | 0, _ => by simp [censB]
  | i + 1, h => by
    have ih := censB_bound l N hs i (by omega)
    rw [censB_succ, List.length_append, cenB_len, Nat.add_mul, Nat.one_mul]
    have hm : l.getD i noFl ∈ l := List.mem_of_getElem? (getD_some (by omega))
    have h1 := hs _ hm
    omega
theorem crcOf_lt (b : List UInt8) : crcOf b < 4294967296 := by unfold crcOf; omega
/-! ### bytes laid behind a row of the call's own, wherever they lie -/
theorem append_bs {w : World} {ops : Array Oper} {rest : List Oper} {o : Oper} {a : Act} {Q : Exit → Act → World → Prop} (hgd : o.guard = none) (s x : Operand)
    (ho : o.op = .call { callee := .builtin .append, args := #[s, x], argTypes := #[28, 28] }) (base : Nat) (v : Value) (n : Nat) (xs : List Value) (hs : a.eval s = v) (hown : w.ownsRow base 5 1 v n xs)
    (A : Option Addr) (c : Nat) (d : List UInt8) (hx : a.eval x = .slice A d.length c) (hd : Bs w A c d) (hb : n + d.length ≤ 140737488355328) (hbase : base ≤ w.heap.size)
    (h : ∀ v' w', w'.ownsRow base 5 1 v' (n + d.length) (xs ++ u8s d) → w.grownBy w' v.ownBlock → wpList Tryd.prog ops Q rest (a.put o.dst v') w') : wpList Tryd.prog ops Q (o :: rest) a w := by
  obtain ⟨i0, hi0, hz0, hz1, hz2⟩ := info_parts infoU8
  cases A with
  | none =>
    obtain ⟨h0, rfl⟩ := hd.nil rfl
    have hdn : d = [] := List.eq_nil_of_length_eq_zero h0
    subst hdn
    exact wpList_append_own_none hgd s x 28 ho base 5 i0 1 Tryd.underlying28 hi0 v n xs hs hown hx (h v w (by simpa [u8s] using hown) (World.grownBy.refl _ _))
  | some ad =>
    refine wpList_append_own _ hgd s x 28 ho base 5 i0 (.int .u8 0) 1 1 Tryd.underlying28 hi0 hz0 hz1 hz2 rfl (by omega) v n xs hs hown ad d.length c (u8s d) hx (by simp [u8s]) (fun j u hu => ?_) (u8s_one d) (by unfold maxLen; omega) (by omega) hbase (fun v' w' h1 h2 _ => h v' w' h1 h2)
    have hj : j < d.length := by have := (List.getElem?_eq_some_iff.1 hu).1; simpa [u8s] using this
    obtain ⟨b, o, hbo, hcell⟩ := hd.cells (by omega)
    have : ad = ⟨b, o, none⟩ := Option.some.inj hbo
    subst this
    rw [Addr.add_lit]
    exact (hcell j (by omega)).trans hu
theorem own_atv {w : World} {base k n : Nat} {t : TypeId} {v : Value} {xs : List Value} (h : w.ownsRow base t k v n xs) (hn : 0 < n) : ∃ g cap, v = .slice (some ⟨g, 0, none⟩) n cap := by
  obtain ⟨A, c, rfl, h1, h2, _, _⟩ := own_form h
  cases A with
  | none => have := (h1 rfl).1; omega
  | some a =>
    obtain ⟨g, rfl⟩ := h2 a rfl
    exact ⟨g, c, rfl⟩
/-! ### the writer, the places, what was there -/
theorem infoInt : (Tryd.prog.info? 3).map (fun i => (i.zero, i.size, i.bytes)) = some (some (.int .i64 0), 1, 8) := by kernel_rfl
theorem Wx.grown_int {w w' : World} {base gw gv g2 g4 b1 : Nat} {B : List UInt8} {v : Value} {n : Nat} {xs : List Value} (h : Wx w base gw gv g2 g4 B) (hI : w.ownsRow b1 3 1 v n xs) (hg : w.grownBy w' v.ownBlock)
    (h1 : gw < b1) (h2 : gv < b1) (h3 : g2 < b1) (h4 : g4 < b1) : Wx w' base gw gv g2 g4 B := by
  obtain ⟨b, h⟩ := h
  have hk : ∀ (g : Nat) (o : Obj), g < b1 → w.heap[g]? = some o → w'.heap[g]? = some o := fun g o hb ho => by
    refine (hg.block g (lt_of_heap ho) fun e => ?_).trans ho
    have := (own_blk hI g e.symm).1
    omega
  refine ⟨b, hk _ _ h1 h.blk, hk _ _ h2 h.var, hk _ _ h3 h.two, hk _ _ h4 h.four, own_keep h.row fun g cs hc => ?_, h.le⟩
  refine (hg.block g (lt_of_heap hc) fun e => ?_).trans hc
  obtain ⟨_, cur, hcur⟩ := own_blk hI g e.symm
  rw [hc] at hcur
  simp at hcur
theorem Wx.drewN {w : World} {base gw gv g2 g4 : Nat} {B : List UInt8} (h : Wx w base gw gv g2 g4 B) (n : Nat) : Wx (w.drewN n) base gw gv g2 g4 B := by
  obtain ⟨b, h⟩ := h
  exact ⟨b, h.drewN n⟩
/-- while the archive is made -/
structure Pk (w : World) (gw gv g2 g4 b1 : Nat) (B : List UInt8) (av : Value) (L : List Nat) (wr : World) : Prop where
  wx : Wx wr w.heap.size gw gv g2 g4 B
  row : wr.ownsRow b1 3 1 av L.length (ints L)
  below : Below w.heap.size w wr
  h1 : gw < b1
  h2 : gv < b1
  h3 : g2 < b1
  h4 : g4 < b1
  hb : w.heap.size ≤ b1
  hs : b1 ≤ wr.heap.size
section
variable {w wr w' : World} {gw gv g2 g4 b1 : Nat} {B B' : List UInt8} {av : Value} {L : List Nat}
theorem Pk.step (h : Pk w gw gv g2 g4 b1 B av L wr) (hx : Wx w' w.heap.size gw gv g2 g4 B') (hf : FrW w.heap.size wr w') : Pk w gw gv g2 g4 b1 B' av L w' :=
  ⟨hx, own_keep h.row fun _ _ hc => hf.other hc not_w_int, h.below.trans (hf.below h.below.size), h.h1, h.h2, h.h3, h.h4, h.hb, Nat.le_trans h.hs hf.size⟩
theorem Pk.over (h : Pk w gw gv g2 g4 b1 B av L wr) (hb : Below wr.heap.size wr w') : Pk w gw gv g2 g4 b1 B av L w' :=
  ⟨h.wx.below hb, own_keep h.row fun g _ hc => (hb.block g (lt_of_heap hc)).trans hc, h.below.trans (hb.mono h.below.size), h.h1, h.h2, h.h3, h.h4, h.hb, Nat.le_trans h.hs hb.size⟩
theorem Pk.grown (h : Pk w gw gv g2 g4 b1 B av L wr) {av' : Value} {L' : List Nat} (hg : wr.grownBy w' av.ownBlock) (hr : w'.ownsRow b1 3 1 av' L'.length (ints L')) : Pk w gw gv g2 g4 b1 B av' L' w' :=
  ⟨h.wx.grown_int h.row hg h.h1 h.h2 h.h3 h.h4, hr, h.below.grown hg h.below.size (fun k hk => Nat.le_trans h.hb (own_blk h.row k hk).1), h.h1, h.h2, h.h3, h.h4, h.hb, Nat.le_trans h.hs hg.size⟩
end
end Go.Proofs.YtdmladdpbdcpjaaDoor
