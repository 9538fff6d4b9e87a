/-
  Files whose bytes are written over, beside another list of files.
-/
import Derived.Test.YtaolddgnannojaaGreatDoorG39
namespace Go.Proofs.YtaolddgnannojaaGreatDoor
open Go.RowKit Go.Maps

/-- while a list's bytes are written over: from w1's size on everything may turn, but for what lies from hi to wx's size; the row of the files, and where the data of those from i on lie -/
structure Ovr (w1 wx : World) (lo hi gr n i : Nat) (cur : Array Value) (wr : World) : Prop where
  below : Below w1.heap.size w1 wr
  base : w1.heap.size ≤ lo
  rest : Kept hi wx wr
  gr1 : lo ≤ gr
  gr2 : gr < hi
  row : wr.heap[gr]? = some (.cells cur 44 (0, 0))
  ent : ∀ j, i ≤ j → j < n → ∃ g m bs, cur[j * 2 + 1]? = some (.slice (some ⟨g, 0, none⟩) m m) ∧ lo ≤ g ∧ g < hi ∧ m ≤ 1048576 ∧ wr.heap[g]? = some (.cells bs 5 (0, 0)) ∧ bs.size = m
theorem Kept.setCell {lo : Nat} {wc w : World} (h : Kept lo wc w) {g : Nat} (hg : g < lo) (k : Nat) (u : Value) : Kept lo wc (w.setCell ⟨g, k, none⟩ u) :=
  ⟨by simpa using h.size, fun j h1 h2 => (Below.heap_setCell _ _ _ _ fun e => by have e : j = g := e; omega).trans (h.same j h1 h2)⟩
theorem Ovr.put {w1 wx wr : World} {lo hi gr n i : Nat} {cur : Array Value} (h : Ovr w1 wx lo hi gr n i cur wr) {g : Nat} (hg : lo ≤ g) (hg2 : g < hi) {bs : Array Value} (hbs : wr.heap[g]? = some (.cells bs 5 (0, 0))) (k : Nat) (u : Value) :
    Ovr w1 wx lo hi gr n i cur (wr.setCell ⟨g, k, none⟩ u) := by
  refine ⟨h.below.setCell (Nat.le_trans h.base hg) u, h.base, h.rest.setCell hg2 k u, h.gr1, h.gr2, (Below.heap_setCell _ _ _ _ fun e => ?_).trans h.row, fun j hj hn => ?_⟩
  · have h1 := h.row
    rw [e, hbs] at h1
    simp at h1
  · obtain ⟨g', m, bs', e1, e2, e2', e3, e4, e5⟩ := h.ent j hj hn
    by_cases he : g' = g
    · subst he
      exact ⟨g', m, _, e1, e2, e2', e3, heap_setCell_at e4 k u, by simp [e5]⟩
    · exact ⟨g', m, bs', e1, e2, e2', e3, (Below.heap_setCell _ _ _ _ he).trans e4, e5⟩
theorem Ovr.next {w1 wx wr w' : World} {lo hi gr n i : Nat} {cur : Array Value} (h : Ovr w1 wx lo hi gr n i cur wr) (hb : Below wr.heap.size wr w') (v : Value) :
    Ovr w1 wx lo hi gr n (i + 1) (cur.setIfInBounds (i * 2 + 1) v) (w'.setCell ⟨gr, i * 2 + 1, none⟩ v) := by
  have hr : w'.heap[gr]? = some (.cells cur 44 (0, 0)) := (hb.block _ (lt_of_heap h.row)).trans h.row
  refine ⟨(h.below.trans (hb.mono h.below.size)).setCell (Nat.le_trans h.base h.gr1) v, h.base, (h.rest.below hb).setCell h.gr2 _ _, h.gr1, h.gr2, heap_setCell_at hr _ v, fun j hj hn => ?_⟩
  obtain ⟨g, m, bs, e1, e2, e2', e3, e4, e5⟩ := h.ent j (by omega) hn
  refine ⟨g, m, bs, ?_, e2, e2', e3, (Below.heap_setCell _ _ _ _ fun e => ?_).trans ((hb.block _ (lt_of_heap e4)).trans e4), e5⟩
  · rw [Array.getElem?_setIfInBounds_ne (by omega)]
    exact e1
  · have e : g = gr := e
    rw [e, h.row] at e4
    simp at e4
/-- nothing more is asked of the entry i -/
theorem Ovr.skip {w1 wx wr : World} {lo hi gr n i : Nat} {cur : Array Value} (h : Ovr w1 wx lo hi gr n i cur wr) : Ovr w1 wx lo hi gr n (i + 1) cur wr :=
  ⟨h.below, h.base, h.rest, h.gr1, h.gr2, h.row, fun j hj hn => h.ent j (by omega) hn⟩
def ovBlk : Option Addr → Nat
  | some a => a.block
  | none => 0
/-- a list of files that a call has made is written over -/
theorem Lst.ovr {w1 w : World} {lo hi : Nat} {A : Option Addr} {c : Nat} {L : List Fl} (h : Lst lo hi w A c L) (hb : Below w1.heap.size w1 w) (hlo : w1.heap.size ≤ lo) (hp : 0 < L.length) :
    A = some ⟨ovBlk A, 0, none⟩ ∧ ∃ cur, Ovr w1 w lo hi (ovBlk A) L.length 0 cur w := by
  obtain ⟨wc, rfl, hk, hm⟩ := h.kept
  have hm2 := hm
  obtain ⟨cs, k1, k2⟩ := hm2
  obtain ⟨A2, c2, e2, h0, h1, _, _⟩ := own_form k2
  simp only [Value.slice.injEq, true_and] at e2
  obtain ⟨rfl, rfl⟩ := e2
  obtain ⟨g, rfl⟩ : ∃ g, A = some ⟨g, 0, none⟩ := by
    cases A with
    | none => have := (h0 rfl).1; omega
    | some a => obtain ⟨g, rfl⟩ := h1 a rfl; exact ⟨g, rfl⟩
  refine ⟨rfl, ?_⟩
  obtain ⟨hg, cur, hc⟩ := own_blk k2 g rfl
  have hcw : w.heap[g]? = some (.cells cur 44 (0, 0)) := (hk.same g hg (lt_of_heap hc)).trans hc
  refine ⟨cur, hb, hlo, Kept.refl _ _, hg, lt_of_heap hc, hcw, fun j _ hj => ?_⟩
  have h3 : ∀ c ∈ cs, c.length = 2 := k1.forall_left fun c p hh => hh.cfl.len
  obtain ⟨ce, hc1, g', hce, m1, m2, m3⟩ := k1.at_ (fl_getD hj)
  subst hce
  have h4 := own_cell k2 ((flat_at h3 hc1 (show 1 < 2 by omega)).trans rfl)
  rw [(blk_cells hc).1] at h4
  exact ⟨g', _, _, h4, m1, lt_of_heap m3, m2, (hk.same g' m1 (lt_of_heap m3)).trans m3, by simp [u8s]⟩
/-- the other list stays -/
theorem Lst.rest {w wr : World} {lo hi hi0 : Nat} {A : Option Addr} {c : Nat} {L : List Fl} (h : Lst lo hi w A c L) (hr : Kept hi0 w wr) (hlo : hi0 ≤ lo) : Lst lo hi wr A c L := by
  obtain ⟨wc, e, hk, hm⟩ := h.kept
  refine ⟨wc, e, ⟨Nat.le_trans hk.size hr.size, fun k h1 h2 => ?_⟩, hm⟩
  exact (hr.same k (by omega) (Nat.lt_of_lt_of_le h2 hk.size)).trans (hk.same k h1 h2)
end Go.Proofs.YtaolddgnannojaaGreatDoor
