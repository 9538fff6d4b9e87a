/-
  What the front of a text says: a round.
-/
import Derived.Test.YtniphdhbgebedaaGreatDoorScRl
namespace Go.Proofs.YtniphdhbgebedaaGreatDoor
open Go.RowKit Go.Maps

set_option linter.unusedSimpArgs false

theorem StepAt.func {w : World} {P : Nat → Prop} {r : Nat} {v : Value} {st : St} (h : StepAt w P r st v) : ∃ f c, v = .func (.func f) #[] c := by
  unfold StepAt at h
  split at h
  · obtain ⟨p, rfl, _⟩ := h; exact ⟨_, _, rfl⟩
  · obtain ⟨_, _, _, _, rfl, _⟩ := h; exact ⟨_, _, rfl⟩
abbrev tokO (x : Tok) : Obj := .cells #[.int .u8 (x.kind.toNat : Int), .string (mkS x.text), .int .i64 (x.line : Nat)] 70
/-- what a round's code does, with a function in the reader's cell -/
def RoundCode (c : RgL) (m : Nat) (ps : Array Tmp) (tmps : Array Value) (assign body : Code) : Prop :=
  ∀ (x : Tok) (W : World), assign.wpIn (Fence.wide.inRound c.L) m Tryz.prog (Exit.then (fun a1 W1 => W1 = W.alloc (tokO x) ∧
    ∀ (W2 : World) (f : Nat) (cap : Array Value) (C : Ending → World → Prop) (Go Stop : World → Prop),
      W2.cell? ⟨c.pr, 0, none⟩ = some (.pointer (some ⟨c.r, 0, none⟩)) → W2.cell? ⟨c.r, 3, none⟩ = some (.func (.func f) #[] cap) → W2.heap[W.heap.size]? = some (tokO x) →
      (∀ (args : Array Value) (y : World), (callFunc f args).run Tryz.prog y = .ok (.enter f args) y) → Calls Tryz.prog f (#[tokA x] ++ cap) W2.drew C →
      (∀ e W3, C e W3 → ∃ u v', e = .returned u ∧ W3.cell? ⟨c.pr, 0, none⟩ = some (.pointer (some ⟨c.r, 0, none⟩)) ∧ W3.cell? ⟨c.r, 3, none⟩ = some v' ∧ ((v' = .nilFunc ∧ Stop W3) ∨ ((∃ f c, v' = .func (.func f) #[] c) ∧ Go W3))) →
      body.wpIn (Fence.wide.inRound c.L) m Tryz.prog (fun e _ W3 => (e = .normal ∧ Go W3) ∨ (e = .exit 0 ∧ Stop W3)) a1 W2) (fun _ _ _ => False))
    { tmps := (ps.zip #[tokA x]).foldl (fun t (p, v) => t.setIfInBounds p v) tmps, defers := [] } W
def RecIs (c : RgL) (fn : FuncId) (tmps : Array Value) (ps : Array Tmp) (assign body : Code) : Prop := ∀ st pe, c.rcd st pe = { state := st, pending := pe, fn := fn, tmps := tmps, params := ps, assign := assign, body := body, defers := c.D }
theorem round_any {c : RgL} (hc : RgOk c) {fn : FuncId} {tmps : Array Value} {ps : Array Tmp} {assign body : Code} (hrec : RecIs c fn tmps ps assign body) (m : Nat) (hps : ps.size = 1) (hround : RoundCode c m ps tmps assign body)
    {pre : List Tok} {x : Tok} {W : World} {OJ : Nat → Prop} (hJ : RgJ c pre W OJ) (hlen : pre.length ≤ 1048576) : YieldAt Fence.wide m Tryz.prog c.L #[tokA x] W (YdPost (RgJ c) (RgX c (.exit 0)) W OJ (pre ++ [x])) := by
  obtain ⟨O, st, d, hrd, hI, rfl⟩ := hJ
  have hrW : W.heap[c.L]? = some (.loop { state := .ready, pending := none, fn := fn, tmps := tmps, params := ps, assign := assign, body := body, defers := c.D }) := by rw [← hrec]; exact hI.recd
  have hdn : d.imports.length ≤ 1048576 := by
    have := rdL_imports _ _ _ _ _ _ _ hrd
    simp [src0] at this
    omega
  refine ⟨fn, _, assign, body, run_yield hrW (by simp [hps]), roundIn_of_wpIn trivial (wpIn_mono (hround x W) ?_)⟩
  intro e a1 W1 hp
  cases e with
  | normal =>
    obtain ⟨rfl, hbody⟩ := hp
    have hB1 : Below W.heap.size W (W.alloc (tokO x)) := (Below.refl _ W).alloc (Nat.le_refl _) _
    have hJlt := (rounds_side c hc).lt (pre := pre) (W := W) (O := RgO c O) ⟨O, st, d, hrd, hI, rfl⟩
    have hI1 := hI.keep hB1.os hB1.tape hB1.output hB1.size fun k hk => hB1.block k (hJlt k hk)
    have hI2 := hI1.put hc .busy none
    have hr1 : (W.alloc (tokO x)).heap[c.L]? = some (.loop { state := .ready, pending := none, fn := fn, tmps := tmps, params := ps, assign := assign, body := body, defers := c.D }) := by rw [← hrec]; exact hI1.recd
    refine ⟨_, run_beginRound hr1 rfl, ?_⟩
    rw [show ({ state := .busy, pending := none, fn := fn, tmps := tmps, params := ps, assign := assign, body := body, defers := c.D } : Loop) = c.rcd .busy none from (hrec _ _).symm]
    have hsz2 : ((W.alloc (tokO x)).putObj c.L (.loop (c.rcd .busy none))).heap.size = W.heap.size + 1 := by simp
    have hLlt := lt_of_heap hrW
    have ht2 : ((W.alloc (tokO x)).putObj c.L (.loop (c.rcd .busy none))).heap[W.heap.size]? = some (tokO x) := (World.putObj_heap_other (by omega)).trans (heap_alloc_new _ _)
    have hkeep2 : ∀ k, k < W.heap.size → k ≠ c.L → ((W.alloc (tokO x)).putObj c.L (.loop (c.rcd .busy none))).heap[k]? = W.heap[k]? := fun k hk hne => (World.putObj_heap_other hne).trans (hB1.block k hk)
    have hos2 : ((W.alloc (tokO x)).putObj c.L (.loop (c.rcd .busy none))).os = W.os ∧ ((W.alloc (tokO x)).putObj c.L (.loop (c.rcd .busy none))).tape = W.tape ∧ ((W.alloc (tokO x)).putObj c.L (.loop (c.rcd .busy none))).output = W.output := ⟨rfl, rfl, rfl⟩
    generalize (W.alloc (tokO x)).putObj c.L (.loop (c.rcd .busy none)) = W2 at hI2 hsz2 ht2 hkeep2 hos2 ⊢
    obtain ⟨P, sl, v, hO, hC, hS⟩ := hI2.next
    have hBd : Below W2.heap.size W2 W2.drew := below_drewN (Below.refl _ W2) 1
    have hCd : RdC W2.drew c.r d sl v 0 0 := hC
    obtain ⟨f, cap, rfl, henter, hcall⟩ := step_any (w := W2.drew) x (hO.below hBd) hCd (StepAt.keep hS (P' := P) (KeepP.of_below hBd) fun _ _ h => h) ((hI2.glob hc).below hBd (hI2.glob hc).pos) hdn
    have hsn := rdL_snoc importOk ruleErr pre .begin_ src0 x st d hrd
    refine wpIn_mono (hbody W2 f cap _ (fun W3 => ∃ O' st' d', stepR importOk ruleErr st d x = .go st' d' ∧ RgI c (.go st' d') .busy none W3 O' ∧ FrP O W2 W3 ∧ ∀ k, O' k → O k ∨ W2.heap.size ≤ k)
      (fun W3 => ∃ O' y, stepR importOk ruleErr st d x = y ∧ (∀ st d, y ≠ .go st d) ∧ RgI c y .busy none W3 O') ((blk_cells hI2.pbox).1 0) ((blk_cells hC).1 3) ht2 henter hcall ?_) ?_
    · rintro e W3 ⟨⟨u, rfl⟩, hF, O', hsub, hnx⟩
      have hF : FrP O W2 W3 := ⟨hF.os, hF.tape, hF.output, hF.size, hF.block⟩
      obtain ⟨y, hy⟩ : ∃ y, stepR importOk ruleErr st d x = y := ⟨_, rfl⟩
      rw [hy] at hnx
      have hI3 := hI2.after hc hF hsub hnx
      have hp3 := (blk_cells hI3.pbox).1 0
      cases y with
      | go st' d' =>
        obtain ⟨P', sl', v', hO', hC', hS'⟩ := hnx
        exact ⟨u, v', rfl, hp3, (blk_cells hC').1 3, .inr ⟨StepAt.func hS', O', st', d', hy, hI3, hF, hsub⟩⟩
      | done d' =>
        obtain ⟨P', sl', v', hO', hC', hS'⟩ := hnx
        exact ⟨u, v', rfl, hp3, (blk_cells hC').1 3, .inl ⟨hS', O', _, hy, fun _ _ h => (by cases h), hI3⟩⟩
      | fault ln er d' =>
        obtain ⟨P', sl', v', hO', hC', hS'⟩ := hnx
        exact ⟨u, v', rfl, hp3, (blk_cells hC').1 3, .inl ⟨hS', O', _, hy, fun _ _ h => (by cases h), hI3⟩⟩
    · rintro e a3 W3 (⟨rfl, O', st', d', hy, hI3, hF, hsub⟩ | ⟨rfl, O', y, hy, hne, hI3⟩)
      · have hr3 : W3.heap[c.L]? = some (.loop { state := .busy, pending := none, fn := fn, tmps := tmps, params := ps, assign := assign, body := body, defers := c.D }) := by rw [← hrec]; exact hI3.recd
        refine ⟨_, _, run_endRound none hr3, .inl ⟨rfl, RgO c O', ⟨O', st', d', hsn.trans hy, ?_, rfl⟩, ?_, ?_⟩⟩
        · have := hI3.put hc .ready none
          rwa [hrec .ready none] at this
        · refine ⟨hF.os.trans hos2.1, hF.tape.trans hos2.2.1, hF.output.trans hos2.2.2, by rw [World.putObj_size]; have := hF.size; omega, fun k hk hn => ?_⟩
          have hkL : k ≠ c.L := fun e => hn (by simp [RgO, e])
          exact (World.putObj_heap_other hkL).trans ((hF.block k (by omega) fun h => hn (by simp [RgO, h])).trans (hkeep2 k hk hkL))
        · rintro k (h | h | h | h | h | h)
          · exact .inl (.inl h)
          · exact .inl (.inr (.inl h))
          · exact .inl (.inr (.inr (.inl h)))
          · exact .inl (.inr (.inr (.inr (.inl h))))
          · exact .inl (.inr (.inr (.inr (.inr (.inl h)))))
          · rcases hsub k h with h | h
            · exact .inl (.inr (.inr (.inr (.inr (.inr h)))))
            · exact .inr (by omega)
      · have hr3 : W3.heap[c.L]? = some (.loop { state := .busy, pending := none, fn := fn, tmps := tmps, params := ps, assign := assign, body := body, defers := c.D }) := by rw [← hrec]; exact hI3.recd
        refine ⟨_, _, run_endRound (some (.exit 0)) hr3, .inr ⟨rfl, O', y, hsn.trans hy, hne, ?_⟩⟩
        have := hI3.put hc .done (some (.exit 0))
        rwa [hrec .done (some (.exit 0))] at this
  | _ => exact hp.elim
end Go.Proofs.YtniphdhbgebedaaGreatDoor
