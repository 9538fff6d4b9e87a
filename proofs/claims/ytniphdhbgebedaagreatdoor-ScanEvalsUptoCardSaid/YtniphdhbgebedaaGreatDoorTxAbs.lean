/-
  A small walker over a frame that is a variable, for functions of many slots: an operation is run against what its operands hold alone.
  A region in whatever order, in a frame that is a variable: what a condition S on the world makes sure of is taken ahead ('heads'), the rest comes in its one order ('tails') and keeps S.
  A region by a plan in which what is taken ahead and what comes in its order may be mixed: the plan names the operations in the order in which they are to be walked.
  A mixed plan of a region with guards ('a && f(b)'): what is guarded is taken, left out or called according to the guard's value.
  A region by a mixed plan in which a condition S on the world need hold only up to the first operation that breaks it; what yields in whatever world is taken at any place.
-/
import Derived.Test.YtniphdhbgebedaaGreatDoorBase
import Derived.Deep.QuietTactic
import Derived.BigQuiet
import Derived.StillTailTactics
import Derived.OrdersHeld
import Derived.StillTail
namespace Go.Proofs.YtniphdhbgebedaaGreatDoor
open Go.RowKit

theorem ev_ne {A : Act} {d k : Nat} {v : Value} (h : k ≠ d) : (A.put (some d) v).eval (.tmp k) = A.eval (.tmp k) := by
  simp only [Act.put, Act.eval, Array.getD_eq_getD_getElem?, Array.getElem?_setIfInBounds_ne (Ne.symm h)]
theorem ev_eq {A : Act} {d : Nat} {v : Value} (h : d < A.tmps.size) : (A.put (some d) v).eval (.tmp d) = v := by
  simp only [Act.put, Act.eval, Array.getD_eq_getD_getElem?, Array.getElem?_setIfInBounds_self_of_lt h, Option.getD_some]
theorem ev_if {A : Act} {d k : Nat} {v : Value} (h : d < A.tmps.size) : (A.put (some d) v).eval (.tmp k) = if k = d then v else A.eval (.tmp k) := by
  by_cases e : k = d
  · subst e; rw [if_pos rfl, ev_eq h]
  · rw [if_neg e, ev_ne e]
theorem ev_none {A : Act} {v : Value} {x : Operand} : (A.put none v).eval x = A.eval x := rfl
theorem ev_const {A : Act} {v : Value} : A.eval (.const v) = v := rfl
theorem sz_put {A : Act} {d : Option Nat} {v : Value} : (A.put d v).tmps.size = A.tmps.size := by
  cases d <;> simp [Act.put]
/-- every slot that p does not name is as it was -/
structure Keep (p : Nat → Bool) (A B : Act) : Prop where
  size : B.tmps.size = A.tmps.size
  defers : B.defers = A.defers
  ev : ∀ k, p k = false → B.eval (.tmp k) = A.eval (.tmp k)
theorem Keep.refl (p : Nat → Bool) (A : Act) : Keep p A A := ⟨rfl, rfl, fun _ _ => rfl⟩
theorem Keep.trans {p : Nat → Bool} {A B C : Act} (h : Keep p A B) (k : Keep p B C) : Keep p A C := ⟨k.size.trans h.size, k.defers.trans h.defers, fun j hj => (k.ev j hj).trans (h.ev j hj)⟩
theorem Keep.put {p : Nat → Bool} {A B : Act} {d : Nat} {v : Value} (hd : p d = true) (h : Keep p A B) : Keep p A (B.put (some d) v) :=
  ⟨sz_put.trans h.size, h.defers, fun k hk => (ev_ne (by rintro rfl; rw [hd] at hk; cases hk)).trans (h.ev k hk)⟩
theorem Keep.putN {p : Nat → Bool} {A B : Act} {v : Value} (h : Keep p A B) : Keep p A (B.put none v) := ⟨h.size, h.defers, fun k hk => h.ev k hk⟩
theorem Keep.mono {p q : Nat → Bool} {A B : Act} (h : Keep p A B) (hq : ∀ k, q k = false → p k = false) : Keep q A B := ⟨h.size, h.defers, fun k hk => h.ev k (hq k hk)⟩

variable {P : Program} {ops : Array Oper} {rest : List Oper} {a : Act} {w : World} {d : Option Tmp} {op : Op} {ty : TypeId} {pos : String} {af : Array Edge}
theorem s_val {Q : Act → Prop} {v : Value} (hrun : (execOp a.eval { dst := d, op := op, type := ty, pos := pos, after := af, guard := none }).run P w = .ok (.value v) w) (h : wpStill P ops w Q rest (a.put d v)) : wpStill P ops w Q ({ dst := d, op := op, type := ty, pos := pos, after := af, guard := none } :: rest) a := by
  refine wpStill_step fun K hK => ?_
  simp only [Region.wanted, if_true, Oper.still, hrun, Oper.stillUpon_value]
  exact hK _ h
theorem q_val {C : World → Prop} {Q : Act → Prop} {v : Value} (hrun : ∀ w, C w → (execOp a.eval { dst := d, op := op, type := ty, pos := pos, after := af, guard := none }).run P w = .ok (.value v) w) (h : wpQuiet P ops C Q rest (a.put d v)) : wpQuiet P ops C Q ({ dst := d, op := op, type := ty, pos := pos, after := af, guard := none } :: rest) a := by
  refine wpQuiet_step fun K hK => ?_
  simp only [Region.wanted, if_true]
  refine ⟨v, fun w' hw' => ?_, hK _ h⟩
  unfold Oper.quietAt
  rw [hrun w' hw']
  exact ⟨rfl, rfl⟩
theorem q_call {C : World → Prop} {Q : Act → Prop} {v : Value} {f : FuncId} {args : Array Value} (hrun : ∀ w, C w → (execOp a.eval { dst := d, op := op, type := ty, pos := pos, after := af, guard := none }).run P w = .ok (.enter f args) w) (hc : ∀ w, C w → Calls P f args w fun e w' => e = .returned v ∧ C w') (h : wpQuiet P ops C Q rest (a.put d v)) : wpQuiet P ops C Q ({ dst := d, op := op, type := ty, pos := pos, after := af, guard := none } :: rest) a := by
  refine wpQuiet_step fun K hK => ?_
  simp only [Region.wanted, if_true]
  refine ⟨v, fun w' hw' => ?_, hK _ h⟩
  unfold Oper.quietAt
  rw [hrun w' hw']
  exact ⟨rfl, hc w' hw'⟩
theorem l_val {Q : Exit → Act → World → Prop} {v : Value} {w' : World} (hrun : (execOp a.eval { dst := d, op := op, type := ty, pos := pos, after := af, guard := none }).run P w = .ok (.value v) w') (h : wpList P ops Q rest (a.put d v) w') : wpList P ops Q ({ dst := d, op := op, type := ty, pos := pos, after := af, guard := none } :: rest) a w := by
  refine wpList_plain rfl fun K hK => ?_
  unfold Oper.wp
  rw [hrun]
  exact hK _ _ h
theorem l_skip {Q : Exit → Act → World → Prop} {w' : World} (hrun : (execOp a.eval { dst := d, op := op, type := ty, pos := pos, after := af, guard := none }).run P w = .ok .skip w') (h : wpList P ops Q rest (a.put d undef) w') : wpList P ops Q ({ dst := d, op := op, type := ty, pos := pos, after := af, guard := none } :: rest) a w := by
  refine wpList_plain rfl fun K hK => ?_
  unfold Oper.wp
  rw [hrun]
  exact hK _ _ h
theorem region_still_tail {id : Nat} {Q : Exit → Act → World → Prop} {l : List Oper} (n : Nat) (hm : P.follows .mixedOrders = true) (hB : Region.lexTailB .any l.toArray n = true)
    (h : ∀ OPS : Array Oper, wpStill P OPS w.drew (fun a' => wpList P OPS Q (l.drop n) a' w.drew) (l.take n) a) : (Code.region id l.toArray true).wp P Q a w :=
  wp_region_still_tail n hm hB (h l.toArray)
theorem region_quiet {id : Nat} {Q : Exit → Act → World → Prop} {l : List Oper} (hm : P.follows .mixedOrders = true) (hB : Region.lexB .any l.toArray = true)
    (h : ∀ OPS : Array Oper, wpQuiet P OPS (fun w' => ∃ n, w' = w.drewN n) (fun a' => ∀ w', (∃ n, w' = w.drewN n) → Q .normal a' w') l a) : (Code.region id l.toArray true).wp P Q a w :=
  wp_region_quiet_lit hm hB (h l.toArray)
/-! ### what an operation runs, by its kind -/
section
variable (ρ : Operand → Value) (d : Option Tmp) (ty : TypeId) (pos : String) (af : Array Edge) (g : Option (Nat × Bool))
theorem x_move (x : Operand) : execOp ρ { dst := d, op := .move x, type := ty, pos := pos, after := af, guard := g } = pure (.value (ρ x)) := rfl
theorem x_assign (x : Operand) : execOp ρ { dst := d, op := .assign x, type := ty, pos := pos, after := af, guard := g } = pure (.value (ρ x)) := rfl
theorem x_load (t : TypeId) (x : Operand) : execOp ρ { dst := d, op := .load t x, type := ty, pos := pos, after := af, guard := g } = (do pure (.value (← Instr.loadAt t (ρ x)))) := rfl
theorem x_store (t : TypeId) (x y : Operand) : execOp ρ { dst := d, op := .store t x y, type := ty, pos := pos, after := af, guard := g } = (do Instr.storeAt t (ρ x) (ρ y); pure .skip) := rfl
theorem x_bin (b : BinOp) (t u : TypeId) (x y : Operand) : execOp ρ { dst := d, op := .binOp b t x y u, type := ty, pos := pos, after := af, guard := g } = (do pure (.value (← (do eqGuard b t x y (ρ x) (ρ y); binOp b t (ρ x) (ρ y))))) := rfl
theorem x_un (b : UnOp) (t : TypeId) (x : Operand) : execOp ρ { dst := d, op := .unOp b t x, type := ty, pos := pos, after := af, guard := g } = (do pure (.value (← Op.unary b (ρ x)))) := rfl
theorem x_conv (t u : TypeId) (x : Operand) : execOp ρ { dst := d, op := .convert t u x, type := ty, pos := pos, after := af, guard := g } = (do pure (.value (← convert t u (ρ x)))) := rfl
theorem x_indexAddr (t : TypeId) (x y : Operand) : execOp ρ { dst := d, op := .indexAddr t x y, type := ty, pos := pos, after := af, guard := g } = (do pure (.value (← Instr.indexAt t (ρ x) (ρ y)))) := rfl
theorem x_index (t : TypeId) (x y : Operand) : execOp ρ { dst := d, op := .index t x y, type := ty, pos := pos, after := af, guard := g } = (do pure (.value (← Instr.index t (ρ x) (ρ y)))) := rfl
theorem x_call (c : Call) : execOp ρ { dst := d, op := .call c, type := ty, pos := pos, after := af, guard := g } = (do let d ← resolve ρ c ty; invoke d.target d.args) := rfl
end
/-! ### the code's own rules, with 'normal, and R' behind -/
def only (R : Act → World → Prop) (e : Exit) (a : Act) (w : World) : Prop := e = .normal ∧ R a w
section
variable {R : Act → World → Prop}
theorem o_link {c : Code} {Q : Exit → Act → World → Prop} (h : c.wp P (only R) a w) (hR : ∀ a w, R a w → Q .normal a w) : c.wp P Q a w :=
  Code.wp_mono (fun e a w ⟨he, hr⟩ => by subst he; exact hR a w hr) h
theorem o_mono {c : Code} {S : Act → World → Prop} (h : c.wp P (only S) a w) (hR : ∀ a w, S a w → R a w) : c.wp P (only R) a w :=
  o_link h fun a w hr => ⟨rfl, hR a w hr⟩
theorem o_seq {x y : Code} (h : x.wp P (only fun a w => y.wp P (only R) a w) a w) : (Code.seq x y).wp P (only R) a w :=
  wp_seq (Code.wp_mono (fun e a w ⟨he, hr⟩ => by subst he; exact hr) h)
theorem o_block {id : Nat} {c : Code} (h : c.wp P (only R) a w) : (Code.block id c).wp P (only R) a w :=
  wp_block (Code.wp_mono (fun e a w ⟨he, hr⟩ => by subst he; exact ⟨rfl, hr⟩) h)
theorem o_skip (h : R a w) : Code.skip.wp P (only R) a w := wp_skip ⟨rfl, h⟩
theorem o_list {id : Nat} {l : List Oper} (h : ∀ OPS : Array Oper, wpList P OPS (only R) l a w) : (Code.region id l.toArray false).wp P (only R) a w :=
  wp_region_lit (h l.toArray)
theorem o_nil (h : R a w) : wpList P ops (only R) [] a w := ⟨rfl, h⟩
theorem o_still {id : Nat} {l : List Oper} (hm : P.follows .mixedOrders = true) (hB : Region.lexB .any l.toArray = true)
    (h : ∀ OPS : Array Oper, wpStill P OPS w.drew (fun a' => only R .normal a' w.drew) l a) : (Code.region id l.toArray true).wp P (only R) a w :=
  wp_region_still_lit hm hB (h l.toArray)
theorem o_nrm (h : R a w) : only R .normal a w := ⟨rfl, h⟩
/-- go on in a new frame that keeps all but q's slots -/
theorem rebase {c : Code} {Q : Exit → Act → World → Prop} {B : Act} (q : Nat → Bool) (k : Nat) (v : Value) (hk : Keep q B a) (hv : a.eval (.tmp k) = v) (h : ∀ C, Keep q B C → C.eval (.tmp k) = v → c.wp P Q C w) : c.wp P Q a w := h a hk hv
/-- a counted loop: n rounds -/
theorem o_for {T B S : Code} {c : Operand} {k j : Nat} (n : Nat) (I : Nat → Act → World → Prop) (h0 : I 0 a w)
    (round : ∀ i a w, i < n → I i a w → T.wp P (only fun a1 w1 => a1.eval c = .bool true ∧ B.wp P (only fun a2 w2 => S.wp P (only (I (i + 1))) a2 w2) a1 w1) a w)
    (last : ∀ a w, I n a w → T.wp P (only fun a1 w1 => a1.eval c = .bool false ∧ R a1 w1) a w) :
    (Code.block k (Code.loop (Code.seq (Code.seq T (Code.cond c .skip (.exit k))) (Code.seq (Code.block j B) S)))).wp P (only R) a w := by
  refine wp_block ?_
  have key : ∀ m i a w, i + m = n → I i a w → Code.rounds P (Code.seq (Code.seq T (Code.cond c .skip (.exit k))) (Code.seq (Code.block j B) S)) (Exit.inBlock k (only R)) (m + 1) a w := by
    intro m
    induction m with
    | zero =>
      rintro i a w rfl hi
      refine wp_seq (wp_seq (Code.wp_mono ?_ (last a w hi)))
      rintro e a1 w1 ⟨rfl, hc, hr⟩
      refine wp_cond_false hc (wp_exit ?_)
      simp only [Exit.then, Exit.inBlock, if_true]
      exact ⟨rfl, hr⟩
    | succ m ih =>
      rintro i a w hi h
      refine wp_seq (wp_seq (Code.wp_mono ?_ (round i a w (by omega) h)))
      rintro e a1 w1 ⟨rfl, hc, hr⟩
      refine wp_cond_true hc (wp_skip ?_)
      refine wp_seq (wp_block (Code.wp_mono ?_ hr))
      rintro e a2 w2 ⟨rfl, hr⟩
      refine Code.wp_mono ?_ hr
      rintro e a3 w3 ⟨rfl, hr⟩
      exact ih (i + 1) a3 w3 (by omega) hr
  exact wp_loop_rounds (n + 1) (key n 0 a w (by omega) h0)
end
/-- a piece of a function's code by its region's number -/
def regionOf (n : Nat) : Code → Option Code
  | .region k ops md => if k = n then some (.region k ops md) else none
  | .loop c => regionOf n c
  | .seq a b => match regionOf n a with
    | some c => some c
    | none => regionOf n b
  | .block _ c => regionOf n c
  | .scope c => regionOf n c
  | .cond _ a b => match regionOf n a with
    | some c => some c
    | none => regionOf n b
  | _ => none
/-- a block of a function's code by its number -/
def blockOf (n : Nat) : Code → Option Code
  | .block k c => if k = n then some (.block k c) else blockOf n c
  | .loop c => blockOf n c
  | .seq a b => match blockOf n a with
    | some c => some c
    | none => blockOf n b
  | .scope c => blockOf n c
  | .cond _ a b => match blockOf n a with
    | some c => some c
    | none => blockOf n b
  | _ => none
/-- slots in any of the spans -/
def span (l : List (Nat × Nat)) (k : Nat) : Bool := l.any fun s => decide (s.1 ≤ k) && decide (k ≤ s.2)
end Go.Proofs.YtniphdhbgebedaaGreatDoor
namespace Go.Proofs.YtniphdhbgebedaaGreatDoor
open Go.RowKit

section
variable {P : Program} {ops : Array Oper} {Q : Exit → Act → World → Prop} {md : Region.Mode} {S : World → Prop} {L : Nat → Bool}
/-- S holds behind every operation but those that L names -/
def wpAnyT (P : Program) (md : Region.Mode) (ops : Array Oper) (Q : Exit → Act → World → Prop) (S : World → Prop) (L : Nat → Bool) : Nat → Array Bool → Act → World → Prop
  | 0, listed, a, w => Region.ready md ops listed = [] ∧ Q .normal a w
  | f + 1, listed, a, w => (Region.ready md ops listed = [] → Q .normal a w) ∧
    ∀ i ∈ Region.ready md ops listed, wpOp P ops Q i (fun a' w' => (L i = true ∨ S w') ∧ wpAnyT P md ops Q S L f (listed.setIfInBounds i true) a' w') a w
theorem wpAny_of_T : ∀ (f : Nat) (listed : Array Bool) (a : Act) (w : World), wpAnyT P md ops Q S L f listed a w → wpAny P md ops Q f listed a w
  | 0, _, _, _, h => h
  | f + 1, _, _, _, h => ⟨h.1, fun i hi => wpOp_mono (fun a' w' h' => wpAny_of_T f _ a' w' h'.2) (h.2 i hi)⟩
/-- j waits for i, by way of others perhaps -/
def before (md : Region.Mode) (ops : Array Oper) : Nat → Nat → Nat → Bool
  | 0, _, _ => false
  | f + 1, j, i => Region.waitsFor md ops j i || (List.range ops.size).any fun k => Region.waitsFor md ops j k && before md ops f k i
theorem before_listed {n : Nat} {listed : Array Bool} (inv : HeadInv md ops n listed) : ∀ f k i, listed.getD k false = true → before md ops f k i = true → listed.getD i false = true
  | 0, _, _, _, h => by simp [before] at h
  | f + 1, k, i, hk, h => by
    simp only [before, Bool.or_eq_true, List.any_eq_true, Bool.and_eq_true] at h
    rcases h with h | ⟨k', _, h1, h2⟩
    · obtain ⟨oj, hoj, e, he, hb, rfl⟩ := Region.waitsFor_spec h
      exact inv.closed k oj hoj hk e he hb
    · obtain ⟨oj, hoj, e, he, hb, rfl⟩ := Region.waitsFor_spec h1
      exact before_listed inv f _ i (inv.closed k oj hoj hk e he hb) h2
theorem before_ready {n : Nat} {listed : Array Bool} (inv : HeadInv md ops n listed) : ∀ f j i, j ∈ Region.ready md ops listed → before md ops f j i = true → listed.getD i false = true
  | 0, _, _, _, h => by simp [before] at h
  | f + 1, j, i, hj, h => by
    obtain ⟨_, oj', hoj', hall⟩ := mem_ready.1 hj
    have key : ∀ k, Region.waitsFor md ops j k = true → listed.getD k false = true := fun k hk => by
      obtain ⟨oj, hoj, e, he, hb, rfl⟩ := Region.waitsFor_spec hk
      have : oj = oj' := Option.some.inj (hoj.symm.trans hoj')
      subst this
      exact hall e he hb
    simp only [before, Bool.or_eq_true, List.any_eq_true, Bool.and_eq_true] at h
    rcases h with h | ⟨k', _, h1, h2⟩
    · exact key _ h
    · exact before_listed inv f _ i (key _ h1) h2
theorem inv_set {i : Nat} {listed : Array Bool} (inv : HeadInv md ops ops.size listed) (hi : i ∈ Region.ready md ops listed) : HeadInv md ops ops.size (listed.setIfInBounds i true) :=
  inv.set hi (by obtain ⟨_, oj, hoj, _⟩ := mem_ready.1 hi; exact (Array.getElem?_eq_some_iff.1 hoj).1)
theorem wpAnyT_first {i F : Nat} {oi : Oper} {v : Value} (hi : ops[i]? = some oi) (hsel : ∀ (j : Nat) (o : Oper) cs b, ops[j]? = some o → o.op ≠ .select cs b)
    (hQ : ∀ c a w, Q (.panic c) (a.put oi.dst v) w → Q (.panic c) a w) (hL : ∀ j, L j = true → before md ops F j i = true) :
    ∀ (fuel : Nat) (listed : Array Bool) (a : Act) (w : World), HeadInv md ops ops.size listed →
      (∀ j oj, ops[j]? = some oj → j ≠ i → listed.getD j true = false → (∀ e ∈ oj.after, Region.binds md e = true → e.on ≠ i) → oi.apart ops oj = true) →
      i ∈ Region.ready md ops listed → YieldsIf P ops S oi v a → S w →
      wpAnyT P md ops Q S L fuel (listed.setIfInBounds i true) (a.put oi.dst v) w → wpAnyT P md ops Q S L (fuel + 1) listed a w := by
  intro fuel
  induction fuel with
  | zero =>
    intro listed a w inv _ hr hy hS H
    refine ⟨fun h => (by rw [h] at hr; cases hr), fun j hj => ?_⟩
    by_cases hji : j = i
    · subst hji; exact hy.wpOp hi hS ⟨.inr hS, H⟩
    · have := ready_mono hj hji
      rw [H.1] at this
      cases this
  | succ fuel ih =>
    intro listed a w inv hfree hr hy hS H
    refine ⟨fun h => (by rw [h] at hr; cases hr), fun j hj => ?_⟩
    by_cases hji : j = i
    · subst hji; exact hy.wpOp hi hS ⟨.inr hS, H⟩
    · have h1 := H.2 j (ready_mono hj hji)
      obtain ⟨hjun, oj, hoj, hall⟩ := mem_ready.1 hj
      have hiun := (mem_ready.1 hr).1
      have hLj : L j = false := by
        cases hl : L j with
        | false => rfl
        | true =>
          have := before_ready inv F j i hj (hL j hl)
          rw [getD_both hiun] at this
          cases this
      have hnot : ∀ e ∈ oj.after, Region.binds md e = true → e.on ≠ i := fun e he hb heq => by
        have h1 := hall e he hb
        rw [heq, getD_both hiun] at h1
        cases h1
      have h2 := wpOp_putIf hoj (hfree j oj hoj hji hjun hnot) (fun cs b => hsel i oi cs b hi) (fun cs b => hsel j oj cs b hoj) hQ hy h1
      have hfree' : ∀ k ok, ops[k]? = some ok → k ≠ i → (listed.setIfInBounds j true).getD k true = false →
          (∀ e ∈ ok.after, Region.binds md e = true → e.on ≠ i) → oi.apart ops ok = true := fun k ok hk hki hun hno => by
        refine hfree k ok hk hki ?_ hno
        by_cases hjk : j = k
        · subst hjk; exact hjun
        · rw [getD_set_ne true hjk] at hun; exact hun
      refine wpOp_mono (fun a' w' h3 => ?_) h2
      have hS' : S w' := h3.2.1.resolve_left (by rw [hLj]; simp)
      refine ⟨.inr hS', ih (listed.setIfInBounds j true) a' w' (inv_set inv hj) hfree' (ready_mono hr (Ne.symm hji)) h3.1 hS' ?_⟩
      rw [Array.setIfInBounds_comm _ _ hji]
      exact h3.2.2
/-! ### a plan: for each operation 'none' (ahead), 'some false' (in its order, keeps S) or 'some true' (behind all that are ahead) -/
def headsOf : List (Option Bool) → List Oper → List Oper
  | none :: m, o :: l => o :: headsOf m l
  | some _ :: m, _ :: l => headsOf m l
  | [], _ => []
  | none :: _, [] => []
  | some _ :: _, [] => []
def tailsOf : List (Option Bool) → List Oper → List (Bool × Oper)
  | none :: m, _ :: l => tailsOf m l
  | some b :: m, o :: l => (b, o) :: tailsOf m l
  | [], _ => []
  | none :: _, [] => []
  | some _ :: _, [] => []
def headIx : Nat → List (Option Bool) → List Nat
  | k, none :: m => k :: headIx (k + 1) m
  | k, some _ :: m => headIx (k + 1) m
  | _, [] => []
def tailIx : Nat → List (Option Bool) → List Nat
  | k, none :: m => tailIx (k + 1) m
  | k, some _ :: m => k :: tailIx (k + 1) m
  | _, [] => []
def headsB (md : Region.Mode) (ops : Array Oper) : List Nat → Array Bool → Option (Array Bool)
  | [], listed => some listed
  | i :: r, listed => if (Region.ready md ops listed).contains i && Region.free md ops listed i then headsB md ops r (listed.setIfInBounds i true) else none
def tailsB (md : Region.Mode) (ops : Array Oper) : List Nat → Array Bool → Bool
  | [], listed => (Region.ready md ops listed).isEmpty
  | k :: r, listed => decide (Region.ready md ops listed = [k]) && tailsB md ops r (listed.setIfInBounds k true)
def lastOf (m : List (Option Bool)) (j : Nat) : Bool := (m.getD j none).getD false
def planB (md : Region.Mode) (ops : Array Oper) (m : List (Option Bool)) : Bool :=
  Region.noSelect ops && decide (m.length = ops.size) && (match headsB md ops (headIx 0 m) (Array.replicate ops.size false) with
    | some listed => tailsB md ops (tailIx 0 m) listed
    | none => false) && (List.range ops.size).all fun j => !lastOf m j || (headIx 0 m).all fun i => before md ops ops.size j i
def wpHeads (P : Program) (ops : Array Oper) (S : World → Prop) (K : Act → Prop) : List Oper → Act → Prop
  | [], a => K a
  | o :: r, a => ∃ v, YieldsIf P ops S o v a ∧ wpHeads P ops S K r (a.put o.dst v)
/-- 'Q' but at a normal end -/
def thenN (K : Act → World → Prop) (Q : Exit → Act → World → Prop) : Exit → Act → World → Prop
  | .normal, a, w => K a w
  | e, a, w => Q e a w
def wpTails (P : Program) (ops : Array Oper) (Q : Exit → Act → World → Prop) (S : World → Prop) : List (Bool × Oper) → Act → World → Prop
  | [], a, w => Q .normal a w
  | (b, o) :: r, a, w => wpList P ops (thenN (fun a' w' => (b = true ∨ S w') ∧ wpTails P ops Q S r a' w') Q) [o] a w
theorem wpOp_of_one {i : Nat} {o : Oper} {K : Act → World → Prop} {a : Act} {w : World} (hi : ops[i]? = some o) (h : wpList P ops (thenN K Q) [o] a w) : wpOp P ops Q i K a w := by
  unfold wpOp
  simp only [hi]
  unfold wpList at h
  split at h
  · rename_i hw
    rw [if_pos hw]
    rcases h with h | ⟨h1, a', w', h2⟩
    · refine .inl ?_
      unfold Oper.wp at *
      generalize (execOp a.eval o).run P w = r at *
      cases r with
      | ok n w' =>
        cases n <;> simp only [Oper.upon] at h ⊢
        case value u => exact h
        case skip => exact h
        case defer d => exact h
        case enter f args =>
          refine Calls.mono h fun e w'' he => ?_
          cases e with
          | returned u => exact he
          | panicked c => exact he
          | outgrown => obtain ⟨a', w', h2⟩ := he; exact ⟨a', w', h2⟩
        case row row args => exact h
      | halt x w' =>
        cases x <;> simp only [Oper.upon] at h ⊢
        case panic u => exact h
    · exact .inr ⟨h1, a', w', h2⟩
  · rename_i hw
    rw [if_neg hw]
    exact h
theorem headIx_len : ∀ (m : List (Option Bool)) (k : Nat), (headIx k m).length + (tailIx k m).length = m.length
  | [], _ => rfl
  | none :: m, k => by have := headIx_len m (k + 1); simp only [headIx, tailIx, List.length_cons]; omega
  | some _ :: m, k => by have := headIx_len m (k + 1); simp only [headIx, tailIx, List.length_cons]; omega
theorem wpAnyT_heads {F : Nat} (hn : Region.noSelect ops = true) (hQ : ∀ c d v a w, Q (.panic c) (a.put d v) w → Q (.panic c) a w)
    (g : Nat) (listed' : Array Bool) (w : World) (hS : S w) (K : Act → Prop) (hK : ∀ a, HeadInv md ops ops.size listed' → K a → wpAnyT P md ops Q S L g listed' a w) :
    ∀ (is : List Nat) (os : List Oper) (listed : Array Bool) (a : Act), (∀ i ∈ is, ∀ j, L j = true → before md ops F j i = true) → HeadInv md ops ops.size listed →
      headsB md ops is listed = some listed' → is.map (ops[·]?) = os.map some → wpHeads P ops S K os a → wpAnyT P md ops Q S L (is.length + g) listed a w
  | [], [], listed, a, _, inv, hb, _, h => by
    simp only [headsB, Option.some.injEq] at hb
    subst hb
    simp only [List.length_nil, Nat.zero_add]
    exact hK a inv h
  | i :: is, o :: os, listed, a, hL, inv, hb, hm, ⟨v, hy, h⟩ => by
    simp only [headsB] at hb
    split at hb
    · rename_i hc
      simp only [Bool.and_eq_true] at hc
      simp only [List.map_cons, List.cons.injEq] at hm
      have hr : i ∈ Region.ready md ops listed := by simpa using hc.1
      rw [List.length_cons, show is.length + 1 + g = (is.length + g) + 1 by omega]
      exact wpAnyT_first hm.1 (Region.noSelect_spec hn) (fun c a w => hQ c _ _ a w) (hL i (by simp)) _ listed a w inv (Region.free_spec hm.1 hc.2) hr hy hS
        (wpAnyT_heads hn hQ g listed' w hS K hK is os _ _ (fun i hi => hL i (by simp [hi])) (inv_set inv hr) hb hm.2 h)
    · cases hb
  | [], _ :: _, _, _, _, _, _, hm, _ => by simp at hm
  | _ :: _, [], _, _, _, _, _, hm, _ => by simp at hm
theorem wpAnyT_tails : ∀ (ks : List Nat) (ts : List (Bool × Oper)) (listed : Array Bool) (a : Act) (w : World), tailsB md ops ks listed = true →
    ks.map (fun k => (L k, ops[k]?)) = ts.map (fun t => (t.1, some t.2)) → wpTails P ops Q S ts a w → wpAnyT P md ops Q S L ks.length listed a w
  | [], [], _, _, _, hb, _, h => ⟨by simpa [tailsB] using hb, h⟩
  | k :: ks, (b, o) :: ts, listed, a, w, hb, hm, h => by
    simp only [tailsB, Bool.and_eq_true, decide_eq_true_eq] at hb
    simp only [List.map_cons, List.cons.injEq, Prod.mk.injEq] at hm
    refine ⟨fun h0 => absurd (hb.1.symm.trans h0) (by simp), fun i hi => ?_⟩
    rw [hb.1] at hi
    obtain rfl : i = k := by simpa using hi
    refine wpOp_mono (fun a' w' h' => ?_) (wpOp_of_one hm.1.2 h)
    exact ⟨by rw [hm.1.1]; exact h'.1, wpAnyT_tails ks ts _ a' w' hb.2 hm.2 h'.2⟩
  | [], _ :: _, _, _, _, _, hm, _ => by simp at hm
  | _ :: _, [], _, _, _, _, hm, _ => by simp at hm
theorem heads_map (l : List Oper) : ∀ (m : List (Option Bool)) (r : List Oper) (k : Nat), m.length = r.length → (∀ j, r[j]? = l[k + j]?) → (headIx k m).map (l[·]?) = (headsOf m r).map some
  | [], [], _, _, _ => rfl
  | none :: m, o :: r, k, hl, h => by
    have h0 := h 0
    simp only [List.getElem?_cons_zero, Nat.add_zero] at h0
    simp only [headIx, headsOf, List.map_cons, ← h0]
    rw [heads_map l m r (k + 1) (by simpa using hl) (fun j => by have := h (j + 1); simpa [Nat.add_assoc, Nat.add_comm 1 j] using this)]
  | some _ :: m, o :: r, k, hl, h => by
    simp only [headIx, headsOf]
    exact heads_map l m r (k + 1) (by simpa using hl) (fun j => by have := h (j + 1); simpa [Nat.add_assoc, Nat.add_comm 1 j] using this)
  | [], _ :: _, _, hl, _ => by simp at hl
  | _ :: _, [], _, hl, _ => by simp at hl
theorem tails_map (l : List Oper) (M : List (Option Bool)) : ∀ (m : List (Option Bool)) (r : List Oper) (k : Nat), m.length = r.length → (∀ j, r[j]? = l[k + j]?) → (∀ j, m[j]? = M[k + j]?) → (tailIx k m).map (fun k => (lastOf M k, l[k]?)) = (tailsOf m r).map (fun t => (t.1, some t.2))
  | [], [], _, _, _, _ => rfl
  | none :: m, o :: r, k, hl, h, hM => by
    simp only [tailIx, tailsOf]
    exact tails_map l M m r (k + 1) (by simpa using hl) (fun j => by have := h (j + 1); simpa [Nat.add_assoc, Nat.add_comm 1 j] using this) (fun j => by have := hM (j + 1); simpa [Nat.add_assoc, Nat.add_comm 1 j] using this)
  | some b :: m, o :: r, k, hl, h, hM => by
    have h0 := h 0
    have hM0 := hM 0
    simp only [List.getElem?_cons_zero, Nat.add_zero] at h0 hM0
    simp only [tailIx, tailsOf, List.map_cons, ← h0]
    rw [tails_map l M m r (k + 1) (by simpa using hl) (fun j => by have := h (j + 1); simpa [Nat.add_assoc, Nat.add_comm 1 j] using this) (fun j => by have := hM (j + 1); simpa [Nat.add_assoc, Nat.add_comm 1 j] using this)]
    simp [lastOf, List.getD_eq_getElem?_getD, ← hM0]
  | [], _ :: _, _, hl, _, _ => by simp at hl
  | _ :: _, [], _, hl, _, _ => by simp at hl
/-- a region by a plan -/
theorem region_plan {id : Nat} {l : List Oper} {a : Act} {w : World} (m : List (Option Bool)) (S : World → Prop) (hm : P.follows .mixedOrders = true) (hB : planB .any l.toArray m = true)
    (hQ : ∀ c d v a w, Q (.panic c) (a.put d v) w → Q (.panic c) a w) (hS : S w.drew)
    (h : ∀ OPS : Array Oper, wpHeads P OPS S (fun a' => wpTails P OPS Q S (tailsOf m l) a' w.drew) (headsOf m l) a) : (Code.region id l.toArray true).wp P Q a w := by
  simp only [planB, Bool.and_eq_true, decide_eq_true_eq, List.all_eq_true] at hB
  obtain ⟨⟨⟨h1, h2⟩, h3⟩, h4⟩ := hB
  refine wp_region_any hm (wpAny_of_T (S := S) (L := lastOf m) _ _ _ _ ?_)
  show wpAnyT P .any l.toArray Q S (lastOf m) l.toArray.size _ a w.drew
  cases hh : headsB .any l.toArray (headIx 0 m) (Array.replicate l.toArray.size false) with
  | none => rw [hh] at h3; cases h3
  | some listed =>
    rw [hh] at h3
    have hlen := headIx_len m 0
    rw [h2] at hlen
    have hml : m.length = l.length := by simpa using h2
    have key := wpAnyT_heads (P := P) (ops := l.toArray) (Q := Q) (md := .any) (S := S) (L := lastOf m) (F := l.toArray.size) h1 hQ (tailIx 0 m).length listed w.drew hS (fun a' => wpTails P l.toArray Q S (tailsOf m l) a' w.drew)
      (fun a' _ hK => wpAnyT_tails (tailIx 0 m) (tailsOf m l) listed a' w.drew h3 (by simpa using tails_map l m m l 0 hml (by simp) (by simp)) hK)
      (headIx 0 m) (headsOf m l) (Array.replicate l.toArray.size false) a ?_ ⟨by simp, (fun j oj _ hj => by rw [getD_replicate_false] at hj; cases hj), (fun t ht ht' => by omega)⟩ hh (by simpa using heads_map l m l 0 hml (by simp)) (h _)
    · rw [hlen] at key
      exact key
    · intro i hi j hj
      by_cases hjl : j < l.toArray.size
      · have := h4 j (by simpa using hjl)
        simp only [Bool.or_eq_true, Bool.not_eq_true', List.all_eq_true] at this
        rcases this with h | h
        · rw [hj] at h; cases h
        · exact h i hi
      · unfold lastOf at hj
        rw [List.getD_eq_getElem?_getD, List.getElem?_eq_none (by simp at hjl; omega)] at hj
        cases hj
end
section
variable {P : Program} {ops : Array Oper} {Q : Exit → Act → World → Prop} {S : World → Prop} {K : Act → Prop} {a : Act} {w : World} {d : Option Tmp} {op : Op} {ty : TypeId} {pos : String} {af : Array Edge} {R : Act → World → Prop}
theorem h_val {v : Value} {rest : List Oper} (hrun : ∀ w, S w → (execOp a.eval { dst := d, op := op, type := ty, pos := pos, after := af, guard := none }).run P w = .ok (.value v) w) (h : wpHeads P ops S K rest (a.put d v)) : wpHeads P ops S K ({ dst := d, op := op, type := ty, pos := pos, after := af, guard := none } :: rest) a :=
  ⟨v, .inl ⟨rfl, hrun⟩, h⟩
theorem h_nil (h : K a) : wpHeads P ops S K [] a := h
theorem t_one {b : Bool} {o : Oper} {rest : List (Bool × Oper)} (h : wpList P ops (thenN (fun a' w' => (b = true ∨ S w') ∧ wpTails P ops Q S rest a' w') Q) [o] a w) : wpTails P ops Q S ((b, o) :: rest) a w := h
theorem t_nil (h : Q .normal a w) : wpTails P ops Q S [] a w := h
theorem t_keep {b : Bool} {rest : List (Bool × Oper)} (hS : S w) (h : wpTails P ops Q S rest a w) : wpList P ops (thenN (fun a' w' => (b = true ∨ S w') ∧ wpTails P ops Q S rest a' w') Q) [] a w := ⟨.inr hS, h⟩
theorem t_last {rest : List (Bool × Oper)} (h : wpTails P ops Q S rest a w) : wpList P ops (thenN (fun a' w' => (true = true ∨ S w') ∧ wpTails P ops Q S rest a' w') Q) [] a w := ⟨.inl rfl, h⟩
theorem only_panic : ∀ (c : List PanicEntry) (d : Option Tmp) (v : Value) (a : Act) (w : World), only R (.panic c) (a.put d v) w → only R (.panic c) a w := fun _ _ _ _ _ h => by cases h.1
theorem l_call {f : FuncId} {args : Array Value} {rest : List Oper} (hrun : (execOp a.eval { dst := d, op := op, type := ty, pos := pos, after := af, guard := none }).run P w = .ok (.enter f args) w)
    (hc : Calls P f args w fun e w'' => ∃ v, e = .returned v ∧ wpList P ops Q rest (a.put d v) w'') : wpList P ops Q ({ dst := d, op := op, type := ty, pos := pos, after := af, guard := none } :: rest) a w := by
  refine wpList_plain rfl fun K hK => ?_
  unfold Oper.wp
  rw [hrun]
  refine Calls.mono hc ?_
  rintro e w'' ⟨v, rfl, h⟩
  exact hK _ _ h
theorem g_list {id : Nat} {l : List Oper} (h : ∀ OPS : Array Oper, wpList P OPS Q l a w) : (Code.region id l.toArray false).wp P Q a w := wp_region_lit (h l.toArray)
theorem g_nil {N : Act → World → Prop} (h : N a w) : wpList P ops (Exit.then N Q) [] a w := h
theorem g_then {N : Act → World → Prop} (h : N a w) : Exit.then N Q .normal a w := h
theorem o_plan {id : Nat} {l : List Oper} (m : List (Option Bool)) (S : World → Prop) (hm : P.follows .mixedOrders = true) (hB : planB .any l.toArray m = true) (hS : S w.drew)
    (h : ∀ OPS : Array Oper, wpHeads P OPS S (fun a' => wpTails P OPS (only R) S (tailsOf m l) a' w.drew) (headsOf m l) a) : (Code.region id l.toArray true).wp P (only R) a w :=
  region_plan m S hm hB only_panic hS h
theorem g_plan {id : Nat} {l : List Oper} (m : List (Option Bool)) (S : World → Prop) (hm : P.follows .mixedOrders = true) (hB : planB .any l.toArray m = true) (hS : S w.drew)
    (h : ∀ OPS : Array Oper, wpHeads P OPS S (fun a' => wpTails P OPS (only (Q .normal)) S (tailsOf m l) a' w.drew) (headsOf m l) a) : (Code.region id l.toArray true).wp P Q a w :=
  o_link (o_plan m S hm hB hS h) fun _ _ h => h
theorem t_end (h : R a w) : wpTails P ops (only R) S [] a w := ⟨rfl, h⟩
end
end Go.Proofs.YtniphdhbgebedaaGreatDoor
namespace Go.Proofs.YtniphdhbgebedaaGreatDoor
open Go.RowKit

section
variable {P : Program} {ops : Array Oper} {Q : Exit → Act → World → Prop} {md : Region.Mode} {S : World → Prop} {L : Nat → Bool}
theorem wpAnyT_take {i F : Nat} {oi : Oper} {v : Value} (hi : ops[i]? = some oi) (hsel : ∀ (j : Nat) (o : Oper) cs b, ops[j]? = some o → o.op ≠ .select cs b)
    (hQ : ∀ c a w, Q (.panic c) (a.put oi.dst v) w → Q (.panic c) a w) :
    ∀ (fuel : Nat) (listed : Array Bool) (a : Act) (w : World), HeadInv md ops ops.size listed → (∀ j, L j = true → listed.getD j false = true ∨ before md ops F j i = true) →
      (∀ j oj, ops[j]? = some oj → j ≠ i → listed.getD j true = false → (∀ e ∈ oj.after, Region.binds md e = true → e.on ≠ i) → oi.apart ops oj = true) →
      i ∈ Region.ready md ops listed → YieldsIf P ops S oi v a → S w →
      wpAnyT P md ops Q S L fuel (listed.setIfInBounds i true) (a.put oi.dst v) w → wpAnyT P md ops Q S L (fuel + 1) listed a w := by
  intro fuel
  induction fuel with
  | zero =>
    intro listed a w inv _ _ hr hy hS H
    refine ⟨fun h => (by rw [h] at hr; cases hr), fun j hj => ?_⟩
    by_cases hji : j = i
    · subst hji; exact hy.wpOp hi hS ⟨.inr hS, H⟩
    · have := ready_mono hj hji
      rw [H.1] at this
      cases this
  | succ fuel ih =>
    intro listed a w inv hL hfree hr hy hS H
    refine ⟨fun h => (by rw [h] at hr; cases hr), fun j hj => ?_⟩
    by_cases hji : j = i
    · subst hji; exact hy.wpOp hi hS ⟨.inr hS, H⟩
    · have h1 := H.2 j (ready_mono hj hji)
      obtain ⟨hjun, oj, hoj, hall⟩ := mem_ready.1 hj
      have hiun := (mem_ready.1 hr).1
      have hLj : L j = false := by
        cases hl : L j with
        | false => rfl
        | true =>
          rcases hL j hl with h | h
          · rw [getD_both hjun] at h
            cases h
          · have := before_ready inv F j i hj h
            rw [getD_both hiun] at this
            cases this
      have hnot : ∀ e ∈ oj.after, Region.binds md e = true → e.on ≠ i := fun e he hb heq => by
        have h1 := hall e he hb
        rw [heq, getD_both hiun] at h1
        cases h1
      have h2 := wpOp_putIf hoj (hfree j oj hoj hji hjun hnot) (fun cs b => hsel i oi cs b hi) (fun cs b => hsel j oj cs b hoj) hQ hy h1
      have hfree' : ∀ k ok, ops[k]? = some ok → k ≠ i → (listed.setIfInBounds j true).getD k true = false →
          (∀ e ∈ ok.after, Region.binds md e = true → e.on ≠ i) → oi.apart ops ok = true := fun k ok hk hki hun hno => by
        refine hfree k ok hk hki ?_ hno
        by_cases hjk : j = k
        · subst hjk; exact hjun
        · rw [getD_set_ne true hjk] at hun; exact hun
      have hL' : ∀ k, L k = true → (listed.setIfInBounds j true).getD k false = true ∨ before md ops F k i = true := fun k hk => (hL k hk).imp (fun h => getD_set_true h) id
      refine wpOp_mono (fun a' w' h3 => ?_) h2
      have hS' : S w' := h3.2.1.resolve_left (by rw [hLj]; simp)
      refine ⟨.inr hS', ih (listed.setIfInBounds j true) a' w' (inv_set inv hj) hL' hfree' (ready_mono hr (Ne.symm hji)) h3.1 hS' ?_⟩
      rw [Array.setIfInBounds_comm _ _ hji]
      exact h3.2.2
def nthO : Nat → List Oper → Option Oper
  | 0, o :: _ => some o
  | n + 1, _ :: l => nthO n l
  | _, [] => none
theorem nthO_eq : ∀ (n : Nat) (l : List Oper), nthO n l = l[n]?
  | 0, o :: l => rfl
  | n + 1, o :: l => by rw [nthO, nthO_eq n l]; rfl
  | 0, [] => rfl
  | n + 1, [] => rfl
def consO (b : Option Bool) (o : Option Oper) (r : List (Option Bool × Oper)) : List (Option Bool × Oper) :=
  match o with
  | some o => (b, o) :: r
  | none => r
theorem consO_some (b : Option Bool) (o : Oper) (r : List (Option Bool × Oper)) : consO b (some o) r = (b, o) :: r := rfl
def mixOf : List (Nat × Option Bool) → List Oper → List (Option Bool × Oper)
  | [], _ => []
  | x :: m, l => consO x.2 (nthO x.1 l) (mixOf m l)
def lastM (m : List (Nat × Option Bool)) (j : Nat) : Bool := m.any fun x => x.1 == j && x.2 == some true
def mixB (md : Region.Mode) (ops : Array Oper) (L : Nat → Bool) : List (Nat × Option Bool) → Array Bool → Bool
  | [], listed => (Region.ready md ops listed).isEmpty
  | (k, none) :: r, listed => (Region.ready md ops listed).contains k && Region.free md ops listed k && ((List.range ops.size).all fun j => !L j || listed.getD j false || before md ops ops.size j k) && mixB md ops L r (listed.setIfInBounds k true)
  | (k, some b) :: r, listed => decide (Region.ready md ops listed = [k]) && (b == L k) && mixB md ops L r (listed.setIfInBounds k true)
def mixPlan (md : Region.Mode) (ops : Array Oper) (m : List (Nat × Option Bool)) : Bool :=
  Region.noSelect ops && decide (m.length = ops.size) && (m.all fun x => decide (x.1 < ops.size)) && mixB md ops (lastM m) m (Array.replicate ops.size false)
def wpMix (P : Program) (ops : Array Oper) (Q : Exit → Act → World → Prop) (S : World → Prop) : List (Option Bool × Oper) → Act → World → Prop
  | [], a, w => Q .normal a w
  | (none, o) :: r, a, w => ∃ v, YieldsIf P ops S o v a ∧ S w ∧ wpMix P ops Q S r (a.put o.dst v) w
  | (some b, o) :: r, a, w => wpList P ops (thenN (fun a' w' => (b = true ∨ S w') ∧ wpMix P ops Q S r a' w') Q) [o] a w
theorem wpAnyT_mix (hn : Region.noSelect ops = true) (hLm : ∀ j, ops.size ≤ j → L j = false) (hQ : ∀ c d v a w, Q (.panic c) (a.put d v) w → Q (.panic c) a w) (l : List Oper) (hl : ops = l.toArray) :
    ∀ (m : List (Nat × Option Bool)) (listed : Array Bool) (a : Act) (w : World), (∀ x ∈ m, x.1 < ops.size) → mixB md ops L m listed = true → HeadInv md ops ops.size listed → wpMix P ops Q S (mixOf m l) a w → wpAnyT P md ops Q S L m.length listed a w
  | [], listed, a, w, _, hb, _, h => ⟨by simpa [mixB] using hb, h⟩
  | (k, none) :: r, listed, a, w, hx, hb, inv, h => by
    simp only [mixB, Bool.and_eq_true, List.all_eq_true, Bool.or_eq_true, Bool.not_eq_true'] at hb
    obtain ⟨⟨⟨h1, h2⟩, h3⟩, h4⟩ := hb
    have hk : k < ops.size := hx (k, none) (by simp)
    obtain ⟨o, ho⟩ : ∃ o, l[k]? = some o := ⟨_, List.getElem?_eq_getElem (by rw [hl] at hk; simpa using hk)⟩
    have hops : ops[k]? = some o := by rw [hl]; simpa using ho
    simp only [mixOf, nthO_eq, ho, consO_some] at h
    obtain ⟨v, hy, hS, h⟩ := h
    have hr : k ∈ Region.ready md ops listed := by simpa using h1
    refine wpAnyT_take (F := ops.size) hops (Region.noSelect_spec hn) (fun c a w => hQ c _ _ a w) _ listed a w inv (fun j hj => ?_) (Region.free_spec hops h2) hr hy hS
      (wpAnyT_mix hn hLm hQ l hl r _ _ w (fun x hx' => hx x (by simp [hx'])) h4 (inv_set inv hr) h)
    by_cases hjl : j < ops.size
    · rcases h3 j (by simpa using hjl) with (h | h) | h
      · rw [hj] at h; cases h
      · exact .inl h
      · exact .inr h
    · rw [hLm j (by omega)] at hj; cases hj
  | (k, some b) :: r, listed, a, w, hx, hb, inv, h => by
    simp only [mixB, Bool.and_eq_true, decide_eq_true_eq, beq_iff_eq] at hb
    obtain ⟨⟨h1, h2⟩, h4⟩ := hb
    have hk : k < ops.size := hx (k, some b) (by simp)
    obtain ⟨o, ho⟩ : ∃ o, l[k]? = some o := ⟨_, List.getElem?_eq_getElem (by rw [hl] at hk; simpa using hk)⟩
    have hops : ops[k]? = some o := by rw [hl]; simpa using ho
    simp only [mixOf, nthO_eq, ho, consO_some] at h
    refine ⟨fun h0 => absurd (h1.symm.trans h0) (by simp), fun i hi => ?_⟩
    have hi' := hi
    rw [h1] at hi
    obtain rfl : i = k := by simpa using hi
    refine wpOp_mono (fun a' w' h' => ?_) (wpOp_of_one hops h)
    exact ⟨by rw [← h2]; exact h'.1, wpAnyT_mix hn hLm hQ l hl r _ a' w' (fun x hx' => hx x (by simp [hx'])) h4 (inv_set inv hi') h'.2⟩
theorem o_mix {id : Nat} {l : List Oper} {R : Act → World → Prop} {a : Act} {w : World} (m : List (Nat × Option Bool)) (S : World → Prop) (hm : P.follows .mixedOrders = true) (hB : mixPlan .any l.toArray m = true)
    (h : ∀ OPS : Array Oper, wpMix P OPS (only R) S (mixOf m l) a w.drew) : (Code.region id l.toArray true).wp P (only R) a w := by
  simp only [mixPlan, Bool.and_eq_true, decide_eq_true_eq, List.all_eq_true] at hB
  obtain ⟨⟨⟨h1, h2⟩, h3⟩, h4⟩ := hB
  refine wp_region_any hm (wpAny_of_T (S := S) (L := lastM m) _ _ _ _ ?_)
  show wpAnyT P .any l.toArray (only R) S (lastM m) l.toArray.size _ a w.drew
  have key := wpAnyT_mix (P := P) (ops := l.toArray) (Q := only R) (md := .any) (S := S) (L := lastM m) h1 (fun j hj => ?_) only_panic l rfl m (Array.replicate l.toArray.size false) a w.drew h3 h4
    ⟨by simp, (fun j oj _ hj => by rw [getD_replicate_false] at hj; cases hj), (fun t ht ht' => by omega)⟩ (h _)
  · rw [h2] at key
    exact key
  · unfold lastM
    rw [List.any_eq_false]
    intro x hx hh
    simp only [Bool.and_eq_true, beq_iff_eq] at hh
    have := h3 x hx
    omega
theorem g_mix {id : Nat} {l : List Oper} {a : Act} {w : World} (m : List (Nat × Option Bool)) (S : World → Prop) (hm : P.follows .mixedOrders = true) (hB : mixPlan .any l.toArray m = true)
    (h : ∀ OPS : Array Oper, wpMix P OPS (only (Q .normal)) S (mixOf m l) a w.drew) : (Code.region id l.toArray true).wp P Q a w :=
  o_link (o_mix m S hm hB h) fun _ _ h => h
end
section
variable {P : Program} {ops : Array Oper} {Q : Exit → Act → World → Prop} {S : World → Prop} {a : Act} {w : World} {d : Option Tmp} {op : Op} {ty : TypeId} {pos : String} {af : Array Edge} {R : Act → World → Prop}
theorem m_val {v : Value} {rest : List (Option Bool × Oper)} (hrun : ∀ w, S w → (execOp a.eval { dst := d, op := op, type := ty, pos := pos, after := af, guard := none }).run P w = .ok (.value v) w) (hS : S w) (h : wpMix P ops Q S rest (a.put d v) w) :
    wpMix P ops Q S ((none, { dst := d, op := op, type := ty, pos := pos, after := af, guard := none }) :: rest) a w := ⟨v, .inl ⟨rfl, hrun⟩, hS, h⟩
theorem m_one {b : Bool} {o : Oper} {rest : List (Option Bool × Oper)} (h : wpList P ops (thenN (fun a' w' => (b = true ∨ S w') ∧ wpMix P ops Q S rest a' w') Q) [o] a w) : wpMix P ops Q S ((some b, o) :: rest) a w := h
theorem m_keep {b : Bool} {rest : List (Option Bool × Oper)} (hS : S w) (h : wpMix P ops Q S rest a w) : wpList P ops (thenN (fun a' w' => (b = true ∨ S w') ∧ wpMix P ops Q S rest a' w') Q) [] a w := ⟨.inr hS, h⟩
theorem m_last {rest : List (Option Bool × Oper)} (h : wpMix P ops Q S rest a w) : wpList P ops (thenN (fun a' w' => (true = true ∨ S w') ∧ wpMix P ops Q S rest a' w') Q) [] a w := ⟨.inl rfl, h⟩
theorem m_end (h : R a w) : wpMix P ops (only R) S [] a w := ⟨rfl, h⟩
end
end Go.Proofs.YtniphdhbgebedaaGreatDoor
namespace Go.Proofs.YtniphdhbgebedaaGreatDoor
open Go.RowKit

section
variable {P : Program} {ops : Array Oper} {Q : Exit → Act → World → Prop} {S : World → Prop}
theorem o_mixg {id : Nat} {l : List Oper} {R : Act → World → Prop} {a : Act} {w : World} (m : List (Nat × Option Bool)) (S : World → Prop) (gi : Nat) (dg : Tmp) (hd : (l[gi]?).bind (·.dst) = some dg) (hm : P.follows .mixedOrders = true) (hB : mixPlan .any l.toArray m = true)
    (h : ∀ OPS : Array Oper, (OPS[gi]?).bind (·.dst) = some dg → wpMix P OPS (only R) S (mixOf m l) a w.drew) : (Code.region id l.toArray true).wp P (only R) a w := by
  simp only [mixPlan, Bool.and_eq_true, decide_eq_true_eq, List.all_eq_true] at hB
  obtain ⟨⟨⟨h1, h2⟩, h3⟩, h4⟩ := hB
  refine wp_region_any hm (wpAny_of_T (S := S) (L := lastM m) _ _ _ _ ?_)
  show wpAnyT P .any l.toArray (only R) S (lastM m) l.toArray.size _ a w.drew
  have key := wpAnyT_mix (P := P) (ops := l.toArray) (Q := only R) (md := .any) (S := S) (L := lastM m) h1 (fun j hj => ?_) only_panic l rfl m (Array.replicate l.toArray.size false) a w.drew h3 h4
    ⟨by simp, (fun j oj _ hj => by rw [getD_replicate_false] at hj; cases hj), (fun t ht ht' => by omega)⟩ (h _ (by simpa using hd))
  · rw [h2] at key
    exact key
  · unfold lastM
    rw [List.any_eq_false]
    intro x hx hh
    simp only [Bool.and_eq_true, beq_iff_eq] at hh
    have := h3 x hx
    omega
theorem g_mixg {id : Nat} {l : List Oper} {a : Act} {w : World} (m : List (Nat × Option Bool)) (S : World → Prop) (gi : Nat) (dg : Tmp) (hd : (l[gi]?).bind (·.dst) = some dg) (hm : P.follows .mixedOrders = true) (hB : mixPlan .any l.toArray m = true)
    (h : ∀ OPS : Array Oper, (OPS[gi]?).bind (·.dst) = some dg → wpMix P OPS (only (Q .normal)) S (mixOf m l) a w.drew) : (Code.region id l.toArray true).wp P Q a w :=
  o_link (o_mixg m S gi dg hd hm hB h) fun _ _ h => h
theorem wanted_at {o : Oper} {gi : Nat} {dg : Tmp} {b c : Bool} {a : Act} (hd : (ops[gi]?).bind (·.dst) = some dg) (hg : o.guard = some (gi, b)) (hb : a.eval (.tmp dg) = .bool c) : Region.wanted o (yielded ops a.tmps) = (c == b) := by
  have hb : a.tmps[dg]? = some (.bool c) := by
    simp only [Act.eval, Array.getD_eq_getD_getElem?] at hb
    cases h : a.tmps[dg]? with
    | none => rw [h] at hb; cases hb
    | some v => rw [h] at hb; simp only [Option.getD_some] at hb; rw [hb]
  simp only [Region.wanted, hg, yielded, hd, Option.bind_some, hb]
  cases c <;> cases b <;> rfl
end
section
variable {P : Program} {ops : Array Oper} {Q : Exit → Act → World → Prop} {S : World → Prop} {a : Act} {w : World} {d : Option Tmp} {op : Op} {ty : TypeId} {pos : String} {af : Array Edge} {R : Act → World → Prop} {gi : Nat} {dg : Tmp} {b : Bool}
theorem m_valg {v : Value} {rest : List (Option Bool × Oper)} (hd : (ops[gi]?).bind (·.dst) = some dg) (hb : a.eval (.tmp dg) = .bool b) (hrun : ∀ w, S w → (execOp a.eval { dst := d, op := op, type := ty, pos := pos, after := af, guard := some (gi, b) }).run P w = .ok (.value v) w) (hS : S w) (h : wpMix P ops Q S rest (a.put d v) w) :
    wpMix P ops Q S ((none, { dst := d, op := op, type := ty, pos := pos, after := af, guard := some (gi, b) }) :: rest) a w := ⟨v, .inl ⟨(wanted_at hd rfl hb).trans (by simp), hrun⟩, hS, h⟩
theorem m_outg {rest : List (Option Bool × Oper)} {c : Bool} (hd : (ops[gi]?).bind (·.dst) = some dg) (hb : a.eval (.tmp dg) = .bool c) (hc : (c == b) = false) (hS : S w) (h : wpMix P ops Q S rest (a.put d undef) w) :
    wpMix P ops Q S ((none, { dst := d, op := op, type := ty, pos := pos, after := af, guard := some (gi, b) }) :: rest) a w := ⟨undef, .inr ⟨(wanted_at hd rfl hb).trans hc, rfl⟩, hS, h⟩
theorem l_onceg {rest : List Oper} (hd : (ops[gi]?).bind (·.dst) = some dg) (hb : a.eval (.tmp dg) = .bool b) (h : wpList P ops Q ({ dst := d, op := op, type := ty, pos := pos, after := af, guard := none } :: rest) a w) :
    wpList P ops Q ({ dst := d, op := op, type := ty, pos := pos, after := af, guard := some (gi, b) } :: rest) a w := by
  have hw : Region.wanted { dst := d, op := op, type := ty, pos := pos, after := af, guard := some (gi, b) } (yielded ops a.tmps) = true := (wanted_at hd rfl hb).trans (by simp)
  have hw' : Region.wanted { dst := d, op := op, type := ty, pos := pos, after := af, guard := none } (yielded ops a.tmps) = true := rfl
  simp only [wpList, hw', if_true] at h
  simp only [wpList, hw, if_true]
  exact h
theorem l_outg {rest : List Oper} {c : Bool} (hd : (ops[gi]?).bind (·.dst) = some dg) (hb : a.eval (.tmp dg) = .bool c) (hc : (c == b) = false) (h : wpList P ops Q rest (a.put d undef) w) :
    wpList P ops Q ({ dst := d, op := op, type := ty, pos := pos, after := af, guard := some (gi, b) } :: rest) a w := by
  have hw : Region.wanted { dst := d, op := op, type := ty, pos := pos, after := af, guard := some (gi, b) } (yielded ops a.tmps) = false := (wanted_at hd rfl hb).trans hc
  simp only [wpList, hw]
  exact h
end
end Go.Proofs.YtniphdhbgebedaaGreatDoor
namespace Go.Proofs.YtniphdhbgebedaaGreatDoor
open Go.RowKit

section
variable {P : Program} {ops : Array Oper} {Q : Exit → Act → World → Prop} {md : Region.Mode} {S : World → Prop} {L : Nat → Bool}
/-- has one of those that L names been carried out? -/
def dn (L : Nat → Bool) (n : Nat) (listed : Array Bool) : Bool := (List.range n).any fun j => L j && listed.getD j false
theorem dn_set {n i : Nat} {listed : Array Bool} (h : dn L n listed = true) : dn L n (listed.setIfInBounds i true) = true := by
  unfold dn at *
  rw [List.any_eq_true] at *
  obtain ⟨j, hj, h⟩ := h
  rw [Bool.and_eq_true] at h
  exact ⟨j, hj, by rw [Bool.and_eq_true]; exact ⟨h.1, getD_set_true h.2⟩⟩
theorem dn_back {n i : Nat} {listed : Array Bool} (hi : L i = false) (h : dn L n (listed.setIfInBounds i true) = true) : dn L n listed = true := by
  unfold dn at *
  rw [List.any_eq_true] at *
  obtain ⟨j, hj, h⟩ := h
  rw [Bool.and_eq_true] at h
  refine ⟨j, hj, ?_⟩
  rw [Bool.and_eq_true]
  refine ⟨h.1, ?_⟩
  by_cases hij : i = j
  · subst hij; rw [hi] at h; cases h.1
  · rw [getD_set_ne false hij] at h; exact h.2
def wpAnyD (P : Program) (md : Region.Mode) (ops : Array Oper) (Q : Exit → Act → World → Prop) (S : World → Prop) (L : Nat → Bool) : Nat → Array Bool → Act → World → Prop
  | 0, listed, a, w => Region.ready md ops listed = [] ∧ Q .normal a w
  | f + 1, listed, a, w => (Region.ready md ops listed = [] → Q .normal a w) ∧
    ∀ i ∈ Region.ready md ops listed, wpOp P ops Q i (fun a' w' => (dn L ops.size (listed.setIfInBounds i true) = true ∨ S w') ∧ wpAnyD P md ops Q S L f (listed.setIfInBounds i true) a' w') a w
theorem wpAny_of_D : ∀ (f : Nat) (listed : Array Bool) (a : Act) (w : World), wpAnyD P md ops Q S L f listed a w → wpAny P md ops Q f listed a w
  | 0, _, _, _, h => h
  | f + 1, _, _, _, h => ⟨h.1, fun i hi => wpOp_mono (fun a' w' h' => wpAny_of_D f _ a' w' h'.2) (h.2 i hi)⟩
/-- what S' makes sure of is taken; S' is S, and nothing that breaks S can come ahead of it; or S' holds always -/
theorem wpAnyD_take {S' : World → Prop} {i F : Nat} {oi : Oper} {v : Value} (hi : ops[i]? = some oi) (hsel : ∀ (j : Nat) (o : Oper) cs b, ops[j]? = some o → o.op ≠ .select cs b)
    (hQ : ∀ c a w, Q (.panic c) (a.put oi.dst v) w → Q (.panic c) a w) (hLi : L i = false) (hS' : (∀ w, S' w) ∨ (S' = S ∧ ∀ j, L j = true → before md ops F j i = true)) :
    ∀ (fuel : Nat) (listed : Array Bool) (a : Act) (w : World), HeadInv md ops ops.size listed →
      (∀ j oj, ops[j]? = some oj → j ≠ i → listed.getD j true = false → (∀ e ∈ oj.after, Region.binds md e = true → e.on ≠ i) → oi.apart ops oj = true) →
      i ∈ Region.ready md ops listed → YieldsIf P ops S' oi v a → ((∀ w, S' w) ∨ dn L ops.size listed = false) → (dn L ops.size listed = true ∨ S w) →
      wpAnyD P md ops Q S L fuel (listed.setIfInBounds i true) (a.put oi.dst v) w → wpAnyD P md ops Q S L (fuel + 1) listed a w := by
  intro fuel
  have hSw : ∀ (listed : Array Bool) (w : World), ((∀ w, S' w) ∨ dn L ops.size listed = false) → (dn L ops.size listed = true ∨ S w) → S' w := fun listed w h1 h2 => by
    rcases h1 with h1 | h1
    · exact h1 w
    · rcases hS' with h3 | ⟨h3, _⟩
      · exact h3 w
      · rw [h3]
        exact h2.resolve_left (by rw [h1]; simp)
  induction fuel with
  | zero =>
    intro listed a w inv _ hr hy hd hS H
    refine ⟨fun h => (by rw [h] at hr; cases hr), fun j hj => ?_⟩
    by_cases hji : j = i
    · subst hji; exact hy.wpOp hi (hSw _ _ hd hS) ⟨hS.imp dn_set id, H⟩
    · have := ready_mono hj hji
      rw [H.1] at this
      cases this
  | succ fuel ih =>
    intro listed a w inv hfree hr hy hd hS H
    refine ⟨fun h => (by rw [h] at hr; cases hr), fun j hj => ?_⟩
    by_cases hji : j = i
    · subst hji; exact hy.wpOp hi (hSw _ _ hd hS) ⟨hS.imp dn_set id, H⟩
    · have h1 := H.2 j (ready_mono hj hji)
      obtain ⟨hjun, oj, hoj, hall⟩ := mem_ready.1 hj
      have hiun := (mem_ready.1 hr).1
      have hnot : ∀ e ∈ oj.after, Region.binds md e = true → e.on ≠ i := fun e he hb heq => by
        have h1 := hall e he hb
        rw [heq, getD_both hiun] at h1
        cases h1
      have h2 := wpOp_putIf hoj (hfree j oj hoj hji hjun hnot) (fun cs b => hsel i oi cs b hi) (fun cs b => hsel j oj cs b hoj) hQ hy h1
      have hfree' : ∀ k ok, ops[k]? = some ok → k ≠ i → (listed.setIfInBounds j true).getD k true = false →
          (∀ e ∈ ok.after, Region.binds md e = true → e.on ≠ i) → oi.apart ops ok = true := fun k ok hk hki hun hno => by
        refine hfree k ok hk hki ?_ hno
        by_cases hjk : j = k
        · subst hjk; exact hjun
        · rw [getD_set_ne true hjk] at hun; exact hun
      have hd' : (∀ w, S' w) ∨ dn L ops.size (listed.setIfInBounds j true) = false := by
        rcases hS' with h3 | ⟨_, h3⟩
        · exact .inl h3
        · rcases hd with hd | hd
          · exact .inl hd
          · refine .inr ?_
            have hLj : L j = false := by
              cases hl : L j with
              | false => rfl
              | true =>
                have := before_ready inv F j i hj (h3 j hl)
                rw [getD_both hiun] at this
                cases this
            cases hh : dn L ops.size (listed.setIfInBounds j true) with
            | false => rfl
            | true => rw [dn_back hLj hh] at hd; cases hd
      refine wpOp_mono (fun a' w' h3 => ?_) h2
      have hS2 : dn L ops.size (listed.setIfInBounds j true) = true ∨ S w' := h3.2.1.imp (fun h => by rw [Array.setIfInBounds_comm _ _ (Ne.symm hji)] at h; exact dn_back hLi h) id
      refine ⟨hS2, ih (listed.setIfInBounds j true) a' w' (inv_set inv hj) hfree' (ready_mono hr (Ne.symm hji)) h3.1 hd' hS2 ?_⟩
      rw [Array.setIfInBounds_comm _ _ hji]
      exact h3.2.2
/-- how an operation of a plan is walked: 0 taken under S, 1 taken in whatever world, 2 alone and S kept, 3 alone (from the first of these on S is not asked) -/
def consX (b : Nat) (o : Option Oper) (r : List (Nat × Oper)) : List (Nat × Oper) :=
  match o with
  | some o => (b, o) :: r
  | none => r
theorem consX_some (b : Nat) (o : Oper) (r : List (Nat × Oper)) : consX b (some o) r = (b, o) :: r := rfl
def mixX : List (Nat × Nat) → List Oper → List (Nat × Oper)
  | [], _ => []
  | x :: m, l => consX x.2 (nthO x.1 l) (mixX m l)
def firstX : List (Nat × Nat) → Nat → Bool
  | [], _ => false
  | (k, 3) :: _, j => k == j
  | _ :: m, j => firstX m j
def mixXB (md : Region.Mode) (ops : Array Oper) (L : Nat → Bool) : List (Nat × Nat) → Bool → Array Bool → Bool
  | [], _, listed => (Region.ready md ops listed).isEmpty
  | (k, 0) :: r, d, listed => !d && !L k && (Region.ready md ops listed).contains k && Region.free md ops listed k && ((List.range ops.size).all fun j => !L j || before md ops ops.size j k) && mixXB md ops L r d (listed.setIfInBounds k true)
  | (k, 1) :: r, d, listed => !L k && (Region.ready md ops listed).contains k && Region.free md ops listed k && mixXB md ops L r d (listed.setIfInBounds k true)
  | (k, 2) :: r, d, listed => !d && !L k && decide (Region.ready md ops listed = [k]) && mixXB md ops L r d (listed.setIfInBounds k true)
  | (k, _ + 3) :: r, d, listed => (d || L k) && decide (Region.ready md ops listed = [k]) && mixXB md ops L r true (listed.setIfInBounds k true)
def planX (md : Region.Mode) (ops : Array Oper) (m : List (Nat × Nat)) : Bool :=
  Region.noSelect ops && decide (m.length = ops.size) && (m.all fun x => decide (x.1 < ops.size)) && ((List.range ops.size).all fun _ => true) && mixXB md ops (firstX m) m false (Array.replicate ops.size false)
def wpX (P : Program) (ops : Array Oper) (Q : Exit → Act → World → Prop) (S : World → Prop) : List (Nat × Oper) → Act → World → Prop
  | [], a, w => Q .normal a w
  | (0, o) :: r, a, w => ∃ v, YieldsIf P ops S o v a ∧ S w ∧ wpX P ops Q S r (a.put o.dst v) w
  | (1, o) :: r, a, w => ∃ v, YieldsIf P ops (fun _ => True) o v a ∧ wpX P ops Q S r (a.put o.dst v) w
  | (2, o) :: r, a, w => wpList P ops (thenN (fun a' w' => S w' ∧ wpX P ops Q S r a' w') Q) [o] a w
  | (_ + 3, o) :: r, a, w => wpList P ops (thenN (fun a' w' => wpX P ops Q S r a' w') Q) [o] a w
theorem dn_now {n i : Nat} {listed : Array Bool} (hi : i < n) (hl : i < listed.size) (hL : L i = true) : dn L n (listed.setIfInBounds i true) = true := by
  unfold dn
  rw [List.any_eq_true]
  exact ⟨i, List.mem_range.2 hi, by rw [hL]; simp [Array.getD_eq_getD_getElem?, hl]⟩
theorem wpAnyD_mix (hn : Region.noSelect ops = true) (hLm : ∀ j, ops.size ≤ j → L j = false) (hQ : ∀ c d v a w, Q (.panic c) (a.put d v) w → Q (.panic c) a w) (l : List Oper) (hl : ops = l.toArray) :
    ∀ (m : List (Nat × Nat)) (d : Bool) (listed : Array Bool) (a : Act) (w : World), (∀ x ∈ m, x.1 < ops.size) → listed.size = ops.size → mixXB md ops L m d listed = true → HeadInv md ops ops.size listed → (d = dn L ops.size listed) → (d = true ∨ S w) → wpX P ops Q S (mixX m l) a w → wpAnyD P md ops Q S L m.length listed a w
  | [], d, listed, a, w, _, _, hb, _, _, _, h => ⟨by simpa [mixXB] using hb, h⟩
  | (k, 0) :: r, d, listed, a, w, hx, hz, hb, inv, hd, hS, h => by
    simp only [mixXB, Bool.and_eq_true, List.all_eq_true, Bool.or_eq_true, Bool.not_eq_true'] at hb
    obtain ⟨⟨⟨⟨⟨h0, h0'⟩, h1⟩, h2⟩, h3⟩, h4⟩ := hb
    have hk : k < ops.size := hx (k, 0) (by simp)
    obtain ⟨o, ho⟩ : ∃ o, l[k]? = some o := ⟨_, List.getElem?_eq_getElem (by rw [hl] at hk; simpa using hk)⟩
    have hops : ops[k]? = some o := by rw [hl]; simpa using ho
    simp only [mixX, nthO_eq, ho, consX_some, wpX] at h
    obtain ⟨v, hy, hSw, h⟩ := h
    have hr : k ∈ Region.ready md ops listed := by simpa using h1
    have hdf : dn L ops.size listed = false := by rw [← hd]; exact h0
    refine wpAnyD_take (S' := S) (F := ops.size) hops (Region.noSelect_spec hn) (fun c a w => hQ c _ _ a w) h0' (.inr ⟨rfl, fun j hj => ?_⟩) _ listed a w inv (Region.free_spec hops h2) hr hy (.inr hdf) (.inr hSw)
      (wpAnyD_mix hn hLm hQ l hl r d _ _ w (fun x hx' => hx x (by simp [hx'])) (by simp [hz]) h4 (inv_set inv hr) ?_ (.inr hSw) h)
    · by_cases hjl : j < ops.size
      · rcases h3 j (by simpa using hjl) with h | h
        · rw [hj] at h; cases h
        · exact h
      · rw [hLm j (by omega)] at hj; cases hj
    · cases hh : dn L ops.size (listed.setIfInBounds k true) with
      | false => exact h0
      | true => rw [dn_back h0' hh] at hdf; cases hdf
  | (k, 1) :: r, d, listed, a, w, hx, hz, hb, inv, hd, hS, h => by
    simp only [mixXB, Bool.and_eq_true, Bool.not_eq_true'] at hb
    obtain ⟨⟨⟨h0', h1⟩, h2⟩, h4⟩ := hb
    have hk : k < ops.size := hx (k, 1) (by simp)
    obtain ⟨o, ho⟩ : ∃ o, l[k]? = some o := ⟨_, List.getElem?_eq_getElem (by rw [hl] at hk; simpa using hk)⟩
    have hops : ops[k]? = some o := by rw [hl]; simpa using ho
    simp only [mixX, nthO_eq, ho, consX_some, wpX] at h
    obtain ⟨v, hy, h⟩ := h
    have hr : k ∈ Region.ready md ops listed := by simpa using h1
    have hsame : d = dn L ops.size (listed.setIfInBounds k true) := by
      rw [hd]
      cases hh : dn L ops.size (listed.setIfInBounds k true) with
      | true => exact dn_back h0' hh
      | false =>
        cases hg : dn L ops.size listed with
        | false => rfl
        | true => rw [dn_set hg] at hh; cases hh
    refine wpAnyD_take (S' := fun _ => True) (F := ops.size) hops (Region.noSelect_spec hn) (fun c a w => hQ c _ _ a w) h0' (.inl fun _ => trivial) _ listed a w inv (Region.free_spec hops h2) hr hy (.inl fun _ => trivial) (by rw [← hd]; exact hS)
      (wpAnyD_mix hn hLm hQ l hl r d _ _ w (fun x hx' => hx x (by simp [hx'])) (by simp [hz]) h4 (inv_set inv hr) hsame hS h)
  | (k, 2) :: r, d, listed, a, w, hx, hz, hb, inv, hd, hS, h => by
    simp only [mixXB, Bool.and_eq_true, decide_eq_true_eq, Bool.not_eq_true'] at hb
    obtain ⟨⟨⟨h0, h0'⟩, h1⟩, h4⟩ := hb
    have hk : k < ops.size := hx (k, 2) (by simp)
    obtain ⟨o, ho⟩ : ∃ o, l[k]? = some o := ⟨_, List.getElem?_eq_getElem (by rw [hl] at hk; simpa using hk)⟩
    have hops : ops[k]? = some o := by rw [hl]; simpa using ho
    simp only [mixX, nthO_eq, ho, consX_some, wpX] at h
    have hdf : dn L ops.size listed = false := by rw [← hd]; exact h0
    have hsame : d = dn L ops.size (listed.setIfInBounds k true) := by
      rw [h0]
      cases hh : dn L ops.size (listed.setIfInBounds k true) with
      | false => rfl
      | true => rw [dn_back h0' hh] at hdf; cases hdf
    refine ⟨fun h0 => absurd (h1.symm.trans h0) (by simp), fun i hi => ?_⟩
    have hi' := hi
    rw [h1] at hi
    obtain rfl : i = k := by simpa using hi
    refine wpOp_mono (fun a' w' h' => ?_) (wpOp_of_one hops h)
    exact ⟨.inr h'.1, wpAnyD_mix hn hLm hQ l hl r d _ a' w' (fun x hx' => hx x (by simp [hx'])) (by simp [hz]) h4 (inv_set inv hi') hsame (.inr h'.1) h'.2⟩
  | (k, b + 3) :: r, d, listed, a, w, hx, hz, hb, inv, hd, hS, h => by
    simp only [mixXB, Bool.and_eq_true, decide_eq_true_eq, Bool.or_eq_true] at hb
    obtain ⟨⟨h0, h1⟩, h4⟩ := hb
    have hk : k < ops.size := hx (k, b + 3) (by simp)
    obtain ⟨o, ho⟩ : ∃ o, l[k]? = some o := ⟨_, List.getElem?_eq_getElem (by rw [hl] at hk; simpa using hk)⟩
    have hops : ops[k]? = some o := by rw [hl]; simpa using ho
    simp only [mixX, nthO_eq, ho, consX_some, wpX] at h
    have hnow : dn L ops.size (listed.setIfInBounds k true) = true := by
      rcases h0 with h0 | h0
      · rw [hd] at h0; exact dn_set h0
      · exact dn_now hk (by rw [hz]; exact hk) h0
    refine ⟨fun h0 => absurd (h1.symm.trans h0) (by simp), fun i hi => ?_⟩
    have hi' := hi
    rw [h1] at hi
    obtain rfl : i = k := by simpa using hi
    refine wpOp_mono (fun a' w' h' => ?_) (wpOp_of_one hops h)
    exact ⟨.inl hnow, wpAnyD_mix hn hLm hQ l hl r true _ a' w' (fun x hx' => hx x (by simp [hx'])) (by simp [hz]) h4 (inv_set inv hi') hnow.symm (.inl rfl) h'⟩
theorem firstX_lt : ∀ (m : List (Nat × Nat)) (n j : Nat), (∀ x ∈ m, x.1 < n) → n ≤ j → firstX m j = false
  | [], _, _, _, _ => rfl
  | (k, 0) :: m, n, j, h, hj => firstX_lt m n j (fun x hx => h x (by simp [hx])) hj
  | (k, 1) :: m, n, j, h, hj => firstX_lt m n j (fun x hx => h x (by simp [hx])) hj
  | (k, 2) :: m, n, j, h, hj => firstX_lt m n j (fun x hx => h x (by simp [hx])) hj
  | (k, 3) :: m, n, j, h, hj => by
    have := h (k, 3) (by simp)
    simp only [firstX]
    rw [beq_eq_false_iff_ne]
    dsimp only at this
    omega
  | (k, _ + 4) :: m, n, j, h, hj => firstX_lt m n j (fun x hx => h x (by simp [hx])) hj
theorem o_mixx {id : Nat} {l : List Oper} {R : Act → World → Prop} {a : Act} {w : World} (m : List (Nat × Nat)) (S : World → Prop) (gi : Nat) (dg : Option Tmp) (hd : (l[gi]?).bind (·.dst) = dg) (hm : P.follows .mixedOrders = true) (hB : planX .any l.toArray m = true) (hS : S w.drew)
    (h : ∀ OPS : Array Oper, (OPS[gi]?).bind (·.dst) = dg → wpX P OPS (only R) S (mixX m l) a w.drew) : (Code.region id l.toArray true).wp P (only R) a w := by
  simp only [planX, Bool.and_eq_true, decide_eq_true_eq, List.all_eq_true] at hB
  obtain ⟨⟨⟨⟨h1, h2⟩, h3⟩, _⟩, h4⟩ := hB
  refine wp_region_any hm (wpAny_of_D (S := S) (L := firstX m) _ _ _ _ ?_)
  show wpAnyD P .any l.toArray (only R) S (firstX m) l.toArray.size _ a w.drew
  have hdn : false = dn (firstX m) l.toArray.size (Array.replicate l.toArray.size false) := by
    symm
    unfold dn
    rw [List.any_eq_false]
    intro x _
    rw [getD_replicate_false]
    simp
  have key := wpAnyD_mix (P := P) (ops := l.toArray) (Q := only R) (md := .any) (S := S) (L := firstX m) h1 (fun j hj => firstX_lt m _ j h3 hj) only_panic l rfl m false (Array.replicate l.toArray.size false) a w.drew h3 (by simp) h4
    ⟨by simp, (fun j oj _ hj => by rw [getD_replicate_false] at hj; cases hj), (fun t ht ht' => by omega)⟩ hdn (.inr hS) (h _ (by simpa using hd))
  rw [h2] at key
  exact key
theorem g_mixx {id : Nat} {l : List Oper} {a : Act} {w : World} (m : List (Nat × Nat)) (S : World → Prop) (gi : Nat) (dg : Option Tmp) (hd : (l[gi]?).bind (·.dst) = dg) (hm : P.follows .mixedOrders = true) (hB : planX .any l.toArray m = true) (hS : S w.drew)
    (h : ∀ OPS : Array Oper, (OPS[gi]?).bind (·.dst) = dg → wpX P OPS (only (Q .normal)) S (mixX m l) a w.drew) : (Code.region id l.toArray true).wp P Q a w :=
  o_link (o_mixx m S gi dg hd hm hB hS h) fun _ _ h => h
end
section
variable {P : Program} {ops : Array Oper} {Q : Exit → Act → World → Prop} {S : World → Prop} {a : Act} {w : World} {d : Option Tmp} {op : Op} {ty : TypeId} {pos : String} {af : Array Edge} {R : Act → World → Prop} {gi : Nat} {dg : Tmp} {b : Bool}
theorem x_val {v : Value} {rest : List (Nat × Oper)} (hrun : ∀ w, S w → (execOp a.eval { dst := d, op := op, type := ty, pos := pos, after := af, guard := none }).run P w = .ok (.value v) w) (hS : S w) (h : wpX P ops Q S rest (a.put d v) w) :
    wpX P ops Q S ((0, { dst := d, op := op, type := ty, pos := pos, after := af, guard := none }) :: rest) a w := ⟨v, .inl ⟨rfl, hrun⟩, hS, h⟩
theorem x_any {v : Value} {rest : List (Nat × Oper)} (hrun : ∀ w, (execOp a.eval { dst := d, op := op, type := ty, pos := pos, after := af, guard := none }).run P w = .ok (.value v) w) (h : wpX P ops Q S rest (a.put d v) w) :
    wpX P ops Q S ((1, { dst := d, op := op, type := ty, pos := pos, after := af, guard := none }) :: rest) a w := ⟨v, .inl ⟨rfl, fun w _ => hrun w⟩, h⟩
theorem x_valg {v : Value} {rest : List (Nat × Oper)} (hd : (ops[gi]?).bind (·.dst) = some dg) (hb : a.eval (.tmp dg) = .bool b) (hrun : ∀ w, S w → (execOp a.eval { dst := d, op := op, type := ty, pos := pos, after := af, guard := some (gi, b) }).run P w = .ok (.value v) w) (hS : S w) (h : wpX P ops Q S rest (a.put d v) w) :
    wpX P ops Q S ((0, { dst := d, op := op, type := ty, pos := pos, after := af, guard := some (gi, b) }) :: rest) a w := ⟨v, .inl ⟨(wanted_at hd rfl hb).trans (by simp), hrun⟩, hS, h⟩
theorem x_outg {rest : List (Nat × Oper)} {c : Bool} (hd : (ops[gi]?).bind (·.dst) = some dg) (hb : a.eval (.tmp dg) = .bool c) (hc : (c == b) = false) (hS : S w) (h : wpX P ops Q S rest (a.put d undef) w) :
    wpX P ops Q S ((0, { dst := d, op := op, type := ty, pos := pos, after := af, guard := some (gi, b) }) :: rest) a w := ⟨undef, .inr ⟨(wanted_at hd rfl hb).trans hc, rfl⟩, hS, h⟩
theorem x_one {o : Oper} {rest : List (Nat × Oper)} (h : wpList P ops (thenN (fun a' w' => S w' ∧ wpX P ops Q S rest a' w') Q) [o] a w) : wpX P ops Q S ((2, o) :: rest) a w := h
theorem x_keep {rest : List (Nat × Oper)} (hS : S w) (h : wpX P ops Q S rest a w) : wpList P ops (thenN (fun a' w' => S w' ∧ wpX P ops Q S rest a' w') Q) [] a w := ⟨hS, h⟩
theorem x_three {o : Oper} {rest : List (Nat × Oper)} (h : wpList P ops (thenN (fun a' w' => wpX P ops Q S rest a' w') Q) [o] a w) : wpX P ops Q S ((3, o) :: rest) a w := h
theorem x_last {rest : List (Nat × Oper)} (h : wpX P ops Q S rest a w) : wpList P ops (thenN (fun a' w' => wpX P ops Q S rest a' w') Q) [] a w := h
theorem x_end (h : R a w) : wpX P ops (only R) S [] a w := ⟨rfl, h⟩
end
end Go.Proofs.YtniphdhbgebedaaGreatDoor
