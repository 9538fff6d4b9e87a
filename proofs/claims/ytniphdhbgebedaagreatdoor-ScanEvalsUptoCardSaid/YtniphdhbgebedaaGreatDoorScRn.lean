/-
  What the front of a text says: the range over its tokens.
-/
import Derived.Test.YtniphdhbgebedaaGreatDoorScRm
namespace Go.Proofs.YtniphdhbgebedaaGreatDoor
open Go.RowKit Go.Maps

set_option linter.unusedSimpArgs false

/-- behind the loop -/
def RgFin (w0 : World) (r pr q0 D : Nat) (x : Res) (W : World) : Prop :=
  ∃ O : Nat → Prop, RdNext x W O r ∧ (∀ k, O k → w0.heap.size ≤ k ∧ k ≠ q0 ∧ k ≠ pr ∧ k ≠ D) ∧ Below w0.heap.size w0 W ∧ W.heap[pr]? = some (.cells #[rP r] 61 (0, 0)) ∧
    W.heap[q0]? = some (.cells #[.string ⟨#[]⟩, .slice none 0 0, .string ⟨#[]⟩] 27 (0, 0)) ∧ W.heap[D]? = some (.deferred (some []))
theorem tokens1_enter (args : Array Value) (y : World) : (callFunc 63 args).run Tryz.prog y = .ok (.enter 63 args) y := call_ok _ _ Tryz.func63 (by kernel_rfl) (by kernel_rfl) args y
theorem RgI.fin {c : RgL} {x : Res} {ls : LoopState} {pe : Option Code} {W : World} {O : Nat → Prop} (h : RgI c x ls pe W O) (hc : RgOk c) (lp : Loop) : RgFin c.w c.r c.pr c.q0 c.D x (W.putObj c.L (.loop lp)) := by
  have ho : ∀ k, k ≠ c.L → (W.putObj c.L (.loop lp)).heap[k]? = W.heap[k]? := fun k hk => World.putObj_heap_other hk
  exact ⟨O, h.next.keep (by simp) fun k hO => ho k (h.ge k hO).2.2.2.1, fun k hk => ⟨(h.ge k hk).1, (h.ge k hk).2.1, (h.ge k hk).2.2.1, (h.ge k hk).2.2.2.2⟩, ⟨h.bel.os, h.bel.tape, h.bel.output, by rw [World.putObj_size]; exact h.bel.size, fun k hlt => (ho k (by have := hc.L_ge; omega)).trans (h.bel.block k hlt)⟩,
    (ho _ (Ne.symm hc.Lp)).trans h.pbox, (ho _ (Ne.symm hc.Lq)).trans h.res, (ho _ (Ne.symm hc.LD)).trans h.dfr⟩
theorem rd_whole {s : List UInt8} {pre : List Tok} {x : Res} (hp : pre <+: toksL s) (hx : rdOf pre = x) (hne : ∀ st d, x ≠ .go st d) : rdOf (toksL s) = x := by
  obtain ⟨u, hu⟩ := hp
  unfold rdOf
  rw [← hu]
  exact rdL_append_end importOk ruleErr pre u .begin_ src0 x hx hne
theorem read_range {g : Operand} {ps : Array Tmp} {assign body : Code} {Q : Exit → Act → World → Prop} {a : Act} {Wl : World} {n : Nat} (w0 : World) (r pr q0 pb : Nat) (s : List UInt8) (O0 : Nat → Prop) (hn : 2 ≤ n)
    (hg : a.eval g = .func (.func 63) #[] #[.pointer (some ⟨pb, 0, none⟩)]) (hps : ps.size = 1) (hlen : s.length ≤ 65536) (hglob : Glob w0) (hpr : w0.heap.size ≤ pr) (hq0 : w0.heap.size ≤ q0)
    (hsrc : Wl.cell? ⟨pb, 0, none⟩ = some (.string (mkS s))) (hst : RdSt Wl O0 r src0 (some .begin_) 0 0) (hO0 : ∀ k, O0 k → w0.heap.size ≤ k ∧ k ≠ q0 ∧ k ≠ pr) (hbel : Below w0.heap.size w0 Wl)
    (hpbox : Wl.heap[pr]? = some (.cells #[rP r] 61 (0, 0))) (hres : Wl.heap[q0]? = some (.cells #[.string ⟨#[]⟩, .slice none 0 0, .string ⟨#[]⟩] 27 (0, 0)))
    (hround : ∀ c : RgL, c.r = r → c.pr = pr → RoundCode c (n - 1 - 1) ps a.tmps assign body)
    (hdone : ∀ W x, rdOf (toksL s) = x → RgFin w0 r pr q0 Wl.heap.size x W → Q .normal { a with defers := { target := .collected Wl.heap.size, args := #[] } :: a.defers } W)
    (hexit : ∀ a w, Q .normal a w → Q (.exit 0) a w) :
    (Code.rangeFunc g ps assign body).wpIn Fence.wide n Tryz.prog Q a Wl := by
  refine wpIn_rangeFunc ?_
  intro fn hfn
  rw [Fence.wide_round]
  have hplt := lt_of_heap hpbox
  have hqlt := lt_of_heap hres
  obtain ⟨c, hcd⟩ : ∃ c : RgL, c = ⟨w0, r, pr, q0, Wl.heap.size + 1, Wl.heap.size, fun st pe => { state := st, pending := pe, fn := fn, tmps := a.tmps, params := ps, assign := assign, body := body, defers := Wl.heap.size }⟩ := ⟨_, rfl⟩
  have e1 : c.w = w0 := by rw [hcd]
  have e2 : c.r = r := by rw [hcd]
  have e3 : c.pr = pr := by rw [hcd]
  have e4 : c.q0 = q0 := by rw [hcd]
  have e5 : c.L = Wl.heap.size + 1 := by rw [hcd]
  have e6 : c.D = Wl.heap.size := by rw [hcd]
  have hrec : RecIs c fn a.tmps ps assign body := by rw [hcd]; exact fun _ _ => rfl
  have hc : RgOk c := by
    have := hbel.size
    exact ⟨by rw [e1]; exact hglob, by rw [e1, e3]; exact hpr, by rw [e1, e4]; exact hq0, by rw [e1, e5]; omega, by rw [e1, e6]; exact hbel.size, by rw [e5, e6]; omega, by rw [e5, e3]; omega, by rw [e5, e4]; omega⟩
  obtain ⟨W1, hW1⟩ : ∃ W1, (Wl.alloc (.deferred (some []))).alloc (.loop (c.rcd .ready none)) = W1 := ⟨_, rfl⟩
  have hB1 : Below Wl.heap.size Wl W1 := by rw [← hW1]; exact ((Below.refl _ Wl).alloc (Nat.le_refl _) _).alloc (by simp) _
  have hL1 : W1.heap[Wl.heap.size + 1]? = some (.loop (c.rcd .ready none)) := by
    rw [← hW1]; have := World.alloc_heap_new (Wl.alloc (.deferred (some []))) (.loop (c.rcd .ready none)); rwa [World.size_alloc] at this
  have hD1 : W1.heap[Wl.heap.size]? = some (.deferred (some [])) := by
    rw [← hW1]; exact (Below.heap_alloc _ _ _ (by simp)).trans (World.alloc_heap_new Wl _)
  have hOlt : ∀ k, O0 k → k < Wl.heap.size := by obtain ⟨_, _, _, hO, _⟩ := hst; exact hO.lt
  have hnx0 : RdNext (.go .begin_ src0) Wl O0 r := hst
  have hI1 : RgI c (.go .begin_ src0) .ready none W1 O0 := by
    refine ⟨by rw [e2]; exact hnx0.keep hB1.size fun k hk => hB1.block k (hOlt k hk), fun k hk => ?_, fun k hk => Nat.lt_of_lt_of_le (hOlt k hk) hB1.size, by rw [e1]; exact hbel.trans (hB1.mono hbel.size), by rw [e3, e2]; exact (hB1.block _ hplt).trans hpbox, by rw [e4]; exact (hB1.block _ hqlt).trans hres, by rw [e5]; exact hL1, by rw [e6]; exact hD1⟩
    obtain ⟨h1, h2, h3⟩ := hO0 k hk
    have := hOlt k hk
    exact ⟨by rw [e1]; exact h1, by rw [e4]; exact h2, by rw [e3]; exact h3, by rw [e5]; omega, by rw [e6]; omega⟩
  have hsrc1 : W1.cell? ⟨pb, 0, none⟩ = some (.string (mkS s)) := below_cell hB1 (World.block_lt_of_cell? _ _ hsrc) hsrc
  have htk := tokens1_any (n - 1) (Wl.heap.size + 1) pb s W1 (RgJ c) (RgX c (.exit 0)) (RgO c O0) (rounds_side c hc) (by omega) hlen (hI1.glob hc) hsrc1 ⟨O0, .begin_, src0, rfl, hI1, rfl⟩ (fun pre x W O hJ _ hp => by
    have hl := hp.length_le
    have := toksF_len s.length ⟨s, 1, true⟩
    rw [List.length_append] at hl
    simp only [List.length_singleton] at hl
    unfold toksL at hl
    simp only at this
    have hy := round_any hc hrec (n - 1 - 1) hps (hround c e2 e3) (x := x) hJ (by omega)
    rw [e5] at hy
    exact hy)
  refine ⟨Wl.heap.size + 1, [{ target := .collected Wl.heap.size, args := #[] }], W1, { target := .fn (.func 63) #[.pointer (some ⟨pb, 0, none⟩)], args := #[.func (.yield (Wl.heap.size + 1)) #[] #[]] }, W1, 63,
    #[.func (.yield (Wl.heap.size + 1)) #[] #[]] ++ #[.pointer (some ⟨pb, 0, none⟩)], W1, ?_, ?_, fun f' _ => trivial, ?_, fun _ => by omega, ?_⟩
  · rw [← hW1, hrec, e6]; exact run_enterLoop_outer _ _ _ _ _
  · simp only [resolve, hg]
    simp [go_sem]
  · have eg := tokens1_enter
    simp [invoke, go_sem, eg]
  · refine htk.mono ?_
    rintro e W2 ⟨⟨v, rfl⟩, (⟨OJ, O, st, d, hrd, hI, _⟩ | ⟨pre, hpre, O, x, hrd, hne, hI⟩)⟩
    · have hL2 := hI.recd
      rw [e5] at hL2
      rw [hrec] at hL2
      have hfin := hI.fin hc { c.rcd .ready none with state := .exhausted }
      rw [e1, e2, e3, e4, e5, e6] at hfin
      refine ⟨none, _, run_endLoop hL2 (by simp), hdone _ _ hrd ?_⟩
      rw [hrec] at hfin
      exact hfin
    · have hL2 := hI.recd
      rw [e5] at hL2
      rw [hrec] at hL2
      have hfin := hI.fin hc { c.rcd .done (some (.exit 0)) with state := .exhausted }
      rw [e1, e2, e3, e4, e5, e6] at hfin
      refine ⟨some (.exit 0), _, run_endLoop hL2 (by simp), wpIn_exit (hexit _ _ (hdone _ _ (rd_whole hpre hrd hne) ?_))⟩
      rw [hrec] at hfin
      exact hfin
end Go.Proofs.YtniphdhbgebedaaGreatDoor
