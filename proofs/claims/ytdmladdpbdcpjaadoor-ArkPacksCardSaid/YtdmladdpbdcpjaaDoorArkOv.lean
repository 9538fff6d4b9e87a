/-
  Files whose bytes are written over. (Printed by wip/abexp.py.)
-/
import Derived.Test.YtdmladdpbdcpjaaDoorArkUnB
import Derived.Test.YtdmladdpbdcpjaaDoorArkFiles2
namespace Go.Proofs.YtdmladdpbdcpjaaDoor
open Go.RowKit

set_option linter.unusedSimpArgs false

/-- while the answer's bytes are written over: from w1's size on everything may turn; the row of the files, and where the data of those from i on lie -/
structure Ovr (w1 : World) (gr n i : Nat) (cur : Array Value) (wr : World) : Prop where
  below : Below w1.heap.size w1 wr
  hgr : w1.heap.size ≤ gr
  row : wr.heap[gr]? = some (.cells cur 46 (0, 0))
  ent : ∀ j, i ≤ j → j < n → ∃ g m bs, cur[j * 2 + 1]? = some (.slice (some ⟨g, 0, none⟩) m m) ∧ w1.heap.size ≤ g ∧ m ≤ 1048576 ∧ wr.heap[g]? = some (.cells bs 5 (0, 0)) ∧ bs.size = m
theorem Ovr.made {w1 w : World} {gr n c : Nat} {l : List Fl} (h : FlM w w1.heap.size (.slice (some ⟨gr, 0, none⟩) n c) l) (hn : n = l.length) (hb : Below w1.heap.size w1 w) : ∃ cur, Ovr w1 gr n 0 cur w := by
  subst hn
  obtain ⟨cs, h1, h2⟩ := h
  obtain ⟨hg, cur, hc⟩ := own_blk h2 gr rfl
  refine ⟨cur, hb, hg, hc, fun j _ hj => ?_⟩
  have h3 : ∀ c ∈ cs, c.length = 2 := h1.forall_left fun c p hh => hh.cfl.len
  obtain ⟨ce, hc1, g, hce, k1, k2, k3⟩ := h1.at_ (getD_some hj)
  subst hce
  have h4 := own_cell h2 ((flat_at h3 hc1 (show 1 < 2 by omega)).trans rfl)
  rw [(blk_cells hc).1] at h4
  exact ⟨g, _, _, h4, k1, k2, k3, by simp [u8s]⟩
theorem Ovr.put {w1 wr : World} {gr n i : Nat} {cur : Array Value} (h : Ovr w1 gr n i cur wr) {g : Nat} (hg : w1.heap.size ≤ g) {bs : Array Value} (hbs : wr.heap[g]? = some (.cells bs 5 (0, 0))) (k : Nat) (u : Value) :
    Ovr w1 gr n i cur (wr.setCell ⟨g, k, none⟩ u) := by
  refine ⟨h.below.setCell hg u, h.hgr, (Below.heap_setCell _ _ _ _ fun e => ?_).trans h.row, fun j hj hn => ?_⟩
  · have h1 := h.row
    rw [e, hbs] at h1
    simp at h1
  · obtain ⟨g', m, bs', e1, e2, e3, e4, e5⟩ := h.ent j hj hn
    by_cases he : g' = g
    · subst he
      exact ⟨g', m, _, e1, e2, e3, heap_setCell_at e4 k u, by simp [e5]⟩
    · exact ⟨g', m, bs', e1, e2, e3, (Below.heap_setCell _ _ _ _ he).trans e4, e5⟩
theorem Ovr.next {w1 wr w' : World} {gr n i : Nat} {cur : Array Value} (h : Ovr w1 gr n i cur wr) (hb : Below wr.heap.size wr w') (v : Value) :
    Ovr w1 gr n (i + 1) (cur.setIfInBounds (i * 2 + 1) v) (w'.setCell ⟨gr, i * 2 + 1, none⟩ v) := by
  have hr : w'.heap[gr]? = some (.cells cur 46 (0, 0)) := (hb.block _ (lt_of_heap h.row)).trans h.row
  refine ⟨(h.below.trans (hb.mono h.below.size)).setCell h.hgr v, h.hgr, heap_setCell_at hr _ v, fun j hj hn => ?_⟩
  obtain ⟨g, m, bs, e1, e2, e3, e4, e5⟩ := h.ent j (by omega) hn
  refine ⟨g, m, bs, ?_, e2, e3, (Below.heap_setCell _ _ _ _ fun e => ?_).trans ((hb.block _ (lt_of_heap e4)).trans e4), e5⟩
  · rw [Array.getElem?_setIfInBounds_ne (by omega)]
    exact e1
  · have e : g = gr := e
    rw [e, h.row] at e4
    simp at e4
def ovBlk : Option Addr → Nat
  | some a => a.block
  | none => 0
end Go.Proofs.YtdmladdpbdcpjaaDoor
