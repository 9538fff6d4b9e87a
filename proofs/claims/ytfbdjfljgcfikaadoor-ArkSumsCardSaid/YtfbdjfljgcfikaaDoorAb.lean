/-
  A small walker over a frame that is a variable, for functions of many slots: an operation is run against what its operands hold alone.
-/
import Derived.Test.YtfbdjfljgcfikaaDoorBase
import Derived.Deep.QuietTactic
import Derived.BigQuiet
import Derived.StillTailTactics
namespace Go.Proofs.YtfbdjfljgcfikaaDoor
open Go.RowKit

theorem ev_ne {A : Act} {d k : Nat} {v : Value} (h : k ≠ d) : (A.put (some d) v).eval (.tmp k) = A.eval (.tmp k) := by
  simp only [Act.put, Act.eval, Array.getD_eq_getD_getElem?, Array.getElem?_setIfInBounds_ne (Ne.symm h)]
theorem ev_eq {A : Act} {d : Nat} {v : Value} (h : d < A.tmps.size) : (A.put (some d) v).eval (.tmp d) = v := by
  simp only [Act.put, Act.eval, Array.getD_eq_getD_getElem?, Array.getElem?_setIfInBounds_self_of_lt h, Option.getD_some]
theorem ev_if {A : Act} {d k : Nat} {v : Value} (h : d < A.tmps.size) : (A.put (some d) v).eval (.tmp k) = if k = d then v else A.eval (.tmp k) := by
  by_cases e : k = d
  · subst e; rw [if_pos rfl, ev_eq h]
  · rw [if_neg e, ev_ne e]
theorem ev_none {A : Act} {v : Value} {x : Operand} : (A.put none v).eval x = A.eval x := rfl
theorem ev_const {A : Act} {v : Value} : A.eval (.const v) = v := rfl
theorem sz_put {A : Act} {d : Option Nat} {v : Value} : (A.put d v).tmps.size = A.tmps.size := by
  cases d <;> simp [Act.put]
/-- every slot that p does not name is as it was -/
structure Keep (p : Nat → Bool) (A B : Act) : Prop where
  size : B.tmps.size = A.tmps.size
  defers : B.defers = A.defers
  ev : ∀ k, p k = false → B.eval (.tmp k) = A.eval (.tmp k)
theorem Keep.refl (p : Nat → Bool) (A : Act) : Keep p A A := ⟨rfl, rfl, fun _ _ => rfl⟩
theorem Keep.trans {p : Nat → Bool} {A B C : Act} (h : Keep p A B) (k : Keep p B C) : Keep p A C := ⟨k.size.trans h.size, k.defers.trans h.defers, fun j hj => (k.ev j hj).trans (h.ev j hj)⟩
theorem Keep.put {p : Nat → Bool} {A B : Act} {d : Nat} {v : Value} (hd : p d = true) (h : Keep p A B) : Keep p A (B.put (some d) v) :=
  ⟨sz_put.trans h.size, h.defers, fun k hk => (ev_ne (by rintro rfl; rw [hd] at hk; cases hk)).trans (h.ev k hk)⟩
theorem Keep.putN {p : Nat → Bool} {A B : Act} {v : Value} (h : Keep p A B) : Keep p A (B.put none v) := ⟨h.size, h.defers, fun k hk => h.ev k hk⟩
theorem Keep.mono {p q : Nat → Bool} {A B : Act} (h : Keep p A B) (hq : ∀ k, q k = false → p k = false) : Keep q A B := ⟨h.size, h.defers, fun k hk => h.ev k (hq k hk)⟩

variable {P : Program} {ops : Array Oper} {rest : List Oper} {a : Act} {w : World} {d : Option Tmp} {op : Op} {ty : TypeId} {pos : String} {af : Array Edge}
theorem s_val {Q : Act → Prop} {v : Value} (hrun : (execOp a.eval { dst := d, op := op, type := ty, pos := pos, after := af, guard := none }).run P w = .ok (.value v) w) (h : wpStill P ops w Q rest (a.put d v)) : wpStill P ops w Q ({ dst := d, op := op, type := ty, pos := pos, after := af, guard := none } :: rest) a := by
  refine wpStill_step fun K hK => ?_
  simp only [Region.wanted, if_true, Oper.still, hrun, Oper.stillUpon_value]
  exact hK _ h
theorem q_val {C : World → Prop} {Q : Act → Prop} {v : Value} (hrun : ∀ w, C w → (execOp a.eval { dst := d, op := op, type := ty, pos := pos, after := af, guard := none }).run P w = .ok (.value v) w) (h : wpQuiet P ops C Q rest (a.put d v)) : wpQuiet P ops C Q ({ dst := d, op := op, type := ty, pos := pos, after := af, guard := none } :: rest) a := by
  refine wpQuiet_step fun K hK => ?_
  simp only [Region.wanted, if_true]
  refine ⟨v, fun w' hw' => ?_, hK _ h⟩
  unfold Oper.quietAt
  rw [hrun w' hw']
  exact ⟨rfl, rfl⟩
theorem q_call {C : World → Prop} {Q : Act → Prop} {v : Value} {f : FuncId} {args : Array Value} (hrun : ∀ w, C w → (execOp a.eval { dst := d, op := op, type := ty, pos := pos, after := af, guard := none }).run P w = .ok (.enter f args) w) (hc : ∀ w, C w → Calls P f args w fun e w' => e = .returned v ∧ C w') (h : wpQuiet P ops C Q rest (a.put d v)) : wpQuiet P ops C Q ({ dst := d, op := op, type := ty, pos := pos, after := af, guard := none } :: rest) a := by
  refine wpQuiet_step fun K hK => ?_
  simp only [Region.wanted, if_true]
  refine ⟨v, fun w' hw' => ?_, hK _ h⟩
  unfold Oper.quietAt
  rw [hrun w' hw']
  exact ⟨rfl, hc w' hw'⟩
theorem l_val {Q : Exit → Act → World → Prop} {v : Value} {w' : World} (hrun : (execOp a.eval { dst := d, op := op, type := ty, pos := pos, after := af, guard := none }).run P w = .ok (.value v) w') (h : wpList P ops Q rest (a.put d v) w') : wpList P ops Q ({ dst := d, op := op, type := ty, pos := pos, after := af, guard := none } :: rest) a w := by
  refine wpList_plain rfl fun K hK => ?_
  unfold Oper.wp
  rw [hrun]
  exact hK _ _ h
theorem l_skip {Q : Exit → Act → World → Prop} {w' : World} (hrun : (execOp a.eval { dst := d, op := op, type := ty, pos := pos, after := af, guard := none }).run P w = .ok .skip w') (h : wpList P ops Q rest (a.put d undef) w') : wpList P ops Q ({ dst := d, op := op, type := ty, pos := pos, after := af, guard := none } :: rest) a w := by
  refine wpList_plain rfl fun K hK => ?_
  unfold Oper.wp
  rw [hrun]
  exact hK _ _ h
theorem region_still_tail {id : Nat} {Q : Exit → Act → World → Prop} {l : List Oper} (n : Nat) (hm : P.follows .mixedOrders = true) (hB : Region.lexTailB .any l.toArray n = true)
    (h : ∀ OPS : Array Oper, wpStill P OPS w.drew (fun a' => wpList P OPS Q (l.drop n) a' w.drew) (l.take n) a) : (Code.region id l.toArray true).wp P Q a w :=
  wp_region_still_tail n hm hB (h l.toArray)
theorem region_quiet {id : Nat} {Q : Exit → Act → World → Prop} {l : List Oper} (hm : P.follows .mixedOrders = true) (hB : Region.lexB .any l.toArray = true)
    (h : ∀ OPS : Array Oper, wpQuiet P OPS (fun w' => ∃ n, w' = w.drewN n) (fun a' => ∀ w', (∃ n, w' = w.drewN n) → Q .normal a' w') l a) : (Code.region id l.toArray true).wp P Q a w :=
  wp_region_quiet_lit hm hB (h l.toArray)
/-! ### what an operation runs, by its kind -/
section
variable (ρ : Operand → Value) (d : Option Tmp) (ty : TypeId) (pos : String) (af : Array Edge) (g : Option (Nat × Bool))
theorem x_move (x : Operand) : execOp ρ { dst := d, op := .move x, type := ty, pos := pos, after := af, guard := g } = pure (.value (ρ x)) := rfl
theorem x_assign (x : Operand) : execOp ρ { dst := d, op := .assign x, type := ty, pos := pos, after := af, guard := g } = pure (.value (ρ x)) := rfl
theorem x_load (t : TypeId) (x : Operand) : execOp ρ { dst := d, op := .load t x, type := ty, pos := pos, after := af, guard := g } = (do pure (.value (← Instr.loadAt t (ρ x)))) := rfl
theorem x_store (t : TypeId) (x y : Operand) : execOp ρ { dst := d, op := .store t x y, type := ty, pos := pos, after := af, guard := g } = (do Instr.storeAt t (ρ x) (ρ y); pure .skip) := rfl
theorem x_bin (b : BinOp) (t u : TypeId) (x y : Operand) : execOp ρ { dst := d, op := .binOp b t x y u, type := ty, pos := pos, after := af, guard := g } = (do pure (.value (← (do eqGuard b t x y (ρ x) (ρ y); binOp b t (ρ x) (ρ y))))) := rfl
theorem x_un (b : UnOp) (t : TypeId) (x : Operand) : execOp ρ { dst := d, op := .unOp b t x, type := ty, pos := pos, after := af, guard := g } = (do pure (.value (← Op.unary b (ρ x)))) := rfl
theorem x_conv (t u : TypeId) (x : Operand) : execOp ρ { dst := d, op := .convert t u x, type := ty, pos := pos, after := af, guard := g } = (do pure (.value (← convert t u (ρ x)))) := rfl
theorem x_indexAddr (t : TypeId) (x y : Operand) : execOp ρ { dst := d, op := .indexAddr t x y, type := ty, pos := pos, after := af, guard := g } = (do pure (.value (← Instr.indexAt t (ρ x) (ρ y)))) := rfl
theorem x_index (t : TypeId) (x y : Operand) : execOp ρ { dst := d, op := .index t x y, type := ty, pos := pos, after := af, guard := g } = (do pure (.value (← Instr.index t (ρ x) (ρ y)))) := rfl
theorem x_call (c : Call) : execOp ρ { dst := d, op := .call c, type := ty, pos := pos, after := af, guard := g } = (do let d ← resolve ρ c ty; invoke d.target d.args) := rfl
end
/-! ### the code's own rules, with 'normal, and R' behind -/
def only (R : Act → World → Prop) (e : Exit) (a : Act) (w : World) : Prop := e = .normal ∧ R a w
section
variable {R : Act → World → Prop}
theorem o_link {c : Code} {Q : Exit → Act → World → Prop} (h : c.wp P (only R) a w) (hR : ∀ a w, R a w → Q .normal a w) : c.wp P Q a w :=
  Code.wp_mono (fun e a w ⟨he, hr⟩ => by subst he; exact hR a w hr) h
theorem o_mono {c : Code} {S : Act → World → Prop} (h : c.wp P (only S) a w) (hR : ∀ a w, S a w → R a w) : c.wp P (only R) a w :=
  o_link h fun a w hr => ⟨rfl, hR a w hr⟩
theorem o_seq {x y : Code} (h : x.wp P (only fun a w => y.wp P (only R) a w) a w) : (Code.seq x y).wp P (only R) a w :=
  wp_seq (Code.wp_mono (fun e a w ⟨he, hr⟩ => by subst he; exact hr) h)
theorem o_block {id : Nat} {c : Code} (h : c.wp P (only R) a w) : (Code.block id c).wp P (only R) a w :=
  wp_block (Code.wp_mono (fun e a w ⟨he, hr⟩ => by subst he; exact ⟨rfl, hr⟩) h)
theorem o_skip (h : R a w) : Code.skip.wp P (only R) a w := wp_skip ⟨rfl, h⟩
theorem o_list {id : Nat} {l : List Oper} (h : ∀ OPS : Array Oper, wpList P OPS (only R) l a w) : (Code.region id l.toArray false).wp P (only R) a w :=
  wp_region_lit (h l.toArray)
theorem o_nil (h : R a w) : wpList P ops (only R) [] a w := ⟨rfl, h⟩
theorem o_still {id : Nat} {l : List Oper} (hm : P.follows .mixedOrders = true) (hB : Region.lexB .any l.toArray = true)
    (h : ∀ OPS : Array Oper, wpStill P OPS w.drew (fun a' => only R .normal a' w.drew) l a) : (Code.region id l.toArray true).wp P (only R) a w :=
  wp_region_still_lit hm hB (h l.toArray)
theorem o_nrm (h : R a w) : only R .normal a w := ⟨rfl, h⟩
/-- go on in a new frame that keeps all but q's slots -/
theorem rebase {c : Code} {Q : Exit → Act → World → Prop} {B : Act} (q : Nat → Bool) (k : Nat) (v : Value) (hk : Keep q B a) (hv : a.eval (.tmp k) = v) (h : ∀ C, Keep q B C → C.eval (.tmp k) = v → c.wp P Q C w) : c.wp P Q a w := h a hk hv
/-- a counted loop: n rounds -/
theorem o_for {T B S : Code} {c : Operand} {k j : Nat} (n : Nat) (I : Nat → Act → World → Prop) (h0 : I 0 a w)
    (round : ∀ i a w, i < n → I i a w → T.wp P (only fun a1 w1 => a1.eval c = .bool true ∧ B.wp P (only fun a2 w2 => S.wp P (only (I (i + 1))) a2 w2) a1 w1) a w)
    (last : ∀ a w, I n a w → T.wp P (only fun a1 w1 => a1.eval c = .bool false ∧ R a1 w1) a w) :
    (Code.block k (Code.loop (Code.seq (Code.seq T (Code.cond c .skip (.exit k))) (Code.seq (Code.block j B) S)))).wp P (only R) a w := by
  refine wp_block ?_
  have key : ∀ m i a w, i + m = n → I i a w → Code.rounds P (Code.seq (Code.seq T (Code.cond c .skip (.exit k))) (Code.seq (Code.block j B) S)) (Exit.inBlock k (only R)) (m + 1) a w := by
    intro m
    induction m with
    | zero =>
      rintro i a w rfl hi
      refine wp_seq (wp_seq (Code.wp_mono ?_ (last a w hi)))
      rintro e a1 w1 ⟨rfl, hc, hr⟩
      refine wp_cond_false hc (wp_exit ?_)
      simp only [Exit.then, Exit.inBlock, if_true]
      exact ⟨rfl, hr⟩
    | succ m ih =>
      rintro i a w hi h
      refine wp_seq (wp_seq (Code.wp_mono ?_ (round i a w (by omega) h)))
      rintro e a1 w1 ⟨rfl, hc, hr⟩
      refine wp_cond_true hc (wp_skip ?_)
      refine wp_seq (wp_block (Code.wp_mono ?_ hr))
      rintro e a2 w2 ⟨rfl, hr⟩
      refine Code.wp_mono ?_ hr
      rintro e a3 w3 ⟨rfl, hr⟩
      exact ih (i + 1) a3 w3 (by omega) hr
  exact wp_loop_rounds (n + 1) (key n 0 a w (by omega) h0)
end
/-- a piece of a function's code by its region's number -/
def regionOf (n : Nat) : Code → Option Code
  | .region k ops md => if k = n then some (.region k ops md) else none
  | .loop c => regionOf n c
  | .seq a b => match regionOf n a with
    | some c => some c
    | none => regionOf n b
  | .block _ c => regionOf n c
  | .scope c => regionOf n c
  | .cond _ a b => match regionOf n a with
    | some c => some c
    | none => regionOf n b
  | _ => none
/-- a block of a function's code by its number -/
def blockOf (n : Nat) : Code → Option Code
  | .block k c => if k = n then some (.block k c) else blockOf n c
  | .loop c => blockOf n c
  | .seq a b => match blockOf n a with
    | some c => some c
    | none => blockOf n b
  | .scope c => blockOf n c
  | .cond _ a b => match blockOf n a with
    | some c => some c
    | none => blockOf n b
  | _ => none
/-- slots in any of the spans -/
def span (l : List (Nat × Nat)) (k : Nat) : Bool := l.any fun s => decide (s.1 ≤ k) && decide (k ≤ s.2)
end Go.Proofs.YtfbdjfljgcfikaaDoor
