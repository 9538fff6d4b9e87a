/-
  What the front of a text says: the law of the loop over the tokens.
-/
import Derived.Test.YtniphdhbgebedaaGreatDoorScRg
namespace Go.Proofs.YtniphdhbgebedaaGreatDoor
open Go.RowKit Go.Maps

set_option linter.unusedSimpArgs false

noncomputable abbrev rdOf (pre : List Tok) : Res := rdL importOk ruleErr .begin_ src0 pre
/-- where the loop's things lie -/
structure RgL where
  w : World
  r : Nat
  pr : Nat
  q0 : Nat
  L : Nat
  D : Nat
  rcd : LoopState → Option Code → Loop
structure RgOk (c : RgL) : Prop where
  glob : Glob c.w
  pr_ge : c.w.heap.size ≤ c.pr
  q0_ge : c.w.heap.size ≤ c.q0
  L_ge : c.w.heap.size ≤ c.L
  D_ge : c.w.heap.size ≤ c.D
  LD : c.L ≠ c.D
  Lp : c.L ≠ c.pr
  Lq : c.L ≠ c.q0
structure RgI (c : RgL) (x : Res) (ls : LoopState) (pe : Option Code) (W : World) (O : Nat → Prop) : Prop where
  next : RdNext x W O c.r
  ge : ∀ k, O k → c.w.heap.size ≤ k ∧ k ≠ c.q0 ∧ k ≠ c.pr ∧ k ≠ c.L ∧ k ≠ c.D
  lt : ∀ k, O k → k < W.heap.size
  bel : Below c.w.heap.size c.w W
  pbox : W.heap[c.pr]? = some (.cells #[rP c.r] 61 (0, 0))
  res : W.heap[c.q0]? = some (.cells #[.string ⟨#[]⟩, .slice none 0 0, .string ⟨#[]⟩] 27 (0, 0))
  recd : W.heap[c.L]? = some (.loop (c.rcd ls pe))
  dfr : W.heap[c.D]? = some (.deferred (some []))
theorem RdNext.keep {x : Res} {w w' : World} {O : Nat → Prop} {r : Nat} (h : RdNext x w O r) (hs : w.heap.size ≤ w'.heap.size) (hk : ∀ k, O k → w'.heap[k]? = w.heap[k]?) : RdNext x w' O r := by
  cases x with
  | go st d => exact RdSt.keep h hs hk
  | done d => exact RdSt.keep h hs hk
  | fault l e d => exact RdSt.keep h hs hk
theorem RdNext.lt {x : Res} {w : World} {O : Nat → Prop} {r : Nat} (h : RdNext x w O r) : ∀ k, O k → k < w.heap.size := by
  cases x with
  | go st d => obtain ⟨_, _, _, hO, _⟩ := h; exact hO.lt
  | done d => obtain ⟨_, _, _, hO, _⟩ := h; exact hO.lt
  | fault l e d => obtain ⟨_, _, _, hO, _⟩ := h; exact hO.lt
def RgO (c : RgL) (O : Nat → Prop) (k : Nat) : Prop := k < c.w.heap.size ∨ k = c.q0 ∨ k = c.pr ∨ k = c.L ∨ k = c.D ∨ O k
theorem RgI.glob {c : RgL} {x : Res} {ls : LoopState} {pe : Option Code} {W : World} {O : Nat → Prop} (h : RgI c x ls pe W O) (hc : RgOk c) : Glob W := hc.glob.below h.bel hc.glob.pos
theorem RgI.keep {c : RgL} {x : Res} {ls : LoopState} {pe : Option Code} {W W' : World} {O : Nat → Prop} (h : RgI c x ls pe W O) (h1 : W'.os = W.os) (h2 : W'.tape = W.tape) (h3 : W'.output = W.output) (h4 : W.heap.size ≤ W'.heap.size) (hk : ∀ k, RgO c O k → W'.heap[k]? = W.heap[k]?) : RgI c x ls pe W' O :=
  ⟨h.next.keep h4 fun k hO => hk k (by simp [RgO, hO]), h.ge, fun k hO => Nat.lt_of_lt_of_le (h.lt k hO) h4, ⟨h1.trans h.bel.os, h2.trans h.bel.tape, h3.trans h.bel.output, Nat.le_trans h.bel.size h4, fun k hlt => (hk k (by simp [RgO, hlt])).trans (h.bel.block k hlt)⟩,
    (hk _ (by simp [RgO])).trans h.pbox, (hk _ (by simp [RgO])).trans h.res, (hk _ (by simp [RgO])).trans h.recd, (hk _ (by simp [RgO])).trans h.dfr⟩
theorem RgI.put {c : RgL} {x : Res} {ls : LoopState} {pe : Option Code} {W : World} {O : Nat → Prop} (h : RgI c x ls pe W O) (hc : RgOk c) (ls' : LoopState) (pe' : Option Code) : RgI c x ls' pe' (W.putObj c.L (.loop (c.rcd ls' pe'))) O := by
  have ho : ∀ k, k ≠ c.L → (W.putObj c.L (.loop (c.rcd ls' pe'))).heap[k]? = W.heap[k]? := fun k hk => World.putObj_heap_other hk
  refine ⟨h.next.keep (by simp) fun k hO => ho k (h.ge k hO).2.2.2.1, h.ge, fun k hO => by rw [World.putObj_size]; exact h.lt k hO, ⟨h.bel.os, h.bel.tape, h.bel.output, by rw [World.putObj_size]; exact h.bel.size, fun k hlt => (ho k (by have := hc.L_ge; omega)).trans (h.bel.block k hlt)⟩,
    (ho _ (Ne.symm hc.Lp)).trans h.pbox, (ho _ (Ne.symm hc.Lq)).trans h.res, World.putObj_heap_same (lt_of_heap' h.recd), (ho _ (Ne.symm hc.LD)).trans h.dfr⟩
where
  lt_of_heap' {W : World} {k : Nat} {o : Obj} (h : W.heap[k]? = some o) : k < W.heap.size := (Array.getElem?_eq_some_iff.1 h).1
/-- behind a round -/
theorem RgI.after {c : RgL} {x y : Res} {ls : LoopState} {pe : Option Code} {W W' : World} {O O' : Nat → Prop} (h : RgI c x ls pe W O) (_hc : RgOk c) (hF : FrP O W W') (hO : ∀ k, O' k → O k ∨ W.heap.size ≤ k) (hn : RdNext y W' O' c.r) : RgI c y ls pe W' O' := by
  have lt {k : Nat} {o : Obj} (h : W.heap[k]? = some o) : k < W.heap.size := (Array.getElem?_eq_some_iff.1 h).1
  have no : ∀ k, (k < c.w.heap.size ∨ k = c.q0 ∨ k = c.pr ∨ k = c.L ∨ k = c.D) → ¬ O k := fun k hk ho => by
    have := h.ge k ho
    omega
  have hge : ∀ k, O' k → c.w.heap.size ≤ k ∧ k ≠ c.q0 ∧ k ≠ c.pr ∧ k ≠ c.L ∧ k ≠ c.D := fun k hk => by
    rcases hO k hk with h1 | h1
    · exact h.ge k h1
    · have := lt h.res
      have := lt h.pbox
      have := lt h.recd
      have := lt h.dfr
      have := h.bel.size
      omega
  exact ⟨hn, hge, hn.lt, ⟨hF.os.trans h.bel.os, hF.tape.trans h.bel.tape, hF.output.trans h.bel.output, Nat.le_trans h.bel.size hF.size, fun k hlt => (hF.block k (Nat.lt_of_lt_of_le hlt h.bel.size) (no k (.inl hlt))).trans (h.bel.block k hlt)⟩,
    (hF.block _ (lt h.pbox) (no _ (by simp))).trans h.pbox, (hF.block _ (lt h.res) (no _ (by simp))).trans h.res, (hF.block _ (lt h.recd) (no _ (by simp))).trans h.recd, (hF.block _ (lt h.dfr) (no _ (by simp))).trans h.dfr⟩
def RgJ (c : RgL) (pre : List Tok) (W : World) (OJ : Nat → Prop) : Prop := ∃ O st d, rdOf pre = .go st d ∧ RgI c (.go st d) .ready none W O ∧ OJ = RgO c O
def RgX (c : RgL) (jump : Code) (pre : List Tok) (W : World) : Prop := ∃ O x, rdOf pre = x ∧ (∀ st d, x ≠ .go st d) ∧ RgI c x .done (some jump) W O
theorem rounds_side (c : RgL) (hc : RgOk c) : RoundsSide (RgJ c) := by
  refine ⟨?_, ?_, ?_⟩
  · rintro pre W OJ ⟨O, st, d, _, h, _⟩
    exact h.glob hc
  · rintro pre W OJ ⟨O, st, d, _, h, rfl⟩ k hk
    have lt {k : Nat} {o : Obj} (h : W.heap[k]? = some o) : k < W.heap.size := (Array.getElem?_eq_some_iff.1 h).1
    rcases hk with h1 | rfl | rfl | rfl | rfl | h1
    · exact Nat.lt_of_lt_of_le h1 h.bel.size
    · exact lt h.res
    · exact lt h.pbox
    · exact lt h.recd
    · exact lt h.dfr
    · exact h.lt k h1
  · rintro pre W W' OJ ⟨O, st, d, h1, h, rfl⟩ e1 e2 e3 e4 hk
    exact ⟨O, st, d, h1, h.keep e1 e2 e3 e4 hk, rfl⟩
end Go.Proofs.YtniphdhbgebedaaGreatDoor
