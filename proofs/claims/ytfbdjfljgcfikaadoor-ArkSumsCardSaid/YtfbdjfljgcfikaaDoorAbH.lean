/-
  A region in whatever order, in a frame that is a variable: what a condition S on the world makes sure of is taken ahead ('heads'), the rest comes in its one order ('tails') and keeps S.
-/
import Derived.Test.YtfbdjfljgcfikaaDoorAb
import Derived.OrdersHeld
import Derived.StillTail
namespace Go.Proofs.YtfbdjfljgcfikaaDoor
open Go.RowKit

section
variable {P : Program} {ops : Array Oper} {Q : Exit → Act → World → Prop} {md : Region.Mode} {S : World → Prop} {L : Nat → Bool}
/-- S holds behind every operation but those that L names -/
def wpAnyT (P : Program) (md : Region.Mode) (ops : Array Oper) (Q : Exit → Act → World → Prop) (S : World → Prop) (L : Nat → Bool) : Nat → Array Bool → Act → World → Prop
  | 0, listed, a, w => Region.ready md ops listed = [] ∧ Q .normal a w
  | f + 1, listed, a, w => (Region.ready md ops listed = [] → Q .normal a w) ∧
    ∀ i ∈ Region.ready md ops listed, wpOp P ops Q i (fun a' w' => (L i = true ∨ S w') ∧ wpAnyT P md ops Q S L f (listed.setIfInBounds i true) a' w') a w
theorem wpAny_of_T : ∀ (f : Nat) (listed : Array Bool) (a : Act) (w : World), wpAnyT P md ops Q S L f listed a w → wpAny P md ops Q f listed a w
  | 0, _, _, _, h => h
  | f + 1, _, _, _, h => ⟨h.1, fun i hi => wpOp_mono (fun a' w' h' => wpAny_of_T f _ a' w' h'.2) (h.2 i hi)⟩
/-- j waits for i, by way of others perhaps -/
def before (md : Region.Mode) (ops : Array Oper) : Nat → Nat → Nat → Bool
  | 0, _, _ => false
  | f + 1, j, i => Region.waitsFor md ops j i || (List.range ops.size).any fun k => Region.waitsFor md ops j k && before md ops f k i
theorem before_listed {n : Nat} {listed : Array Bool} (inv : HeadInv md ops n listed) : ∀ f k i, listed.getD k false = true → before md ops f k i = true → listed.getD i false = true
  | 0, _, _, _, h => by simp [before] at h
  | f + 1, k, i, hk, h => by
    simp only [before, Bool.or_eq_true, List.any_eq_true, Bool.and_eq_true] at h
    rcases h with h | ⟨k', _, h1, h2⟩
    · obtain ⟨oj, hoj, e, he, hb, rfl⟩ := Region.waitsFor_spec h
      exact inv.closed k oj hoj hk e he hb
    · obtain ⟨oj, hoj, e, he, hb, rfl⟩ := Region.waitsFor_spec h1
      exact before_listed inv f _ i (inv.closed k oj hoj hk e he hb) h2
theorem before_ready {n : Nat} {listed : Array Bool} (inv : HeadInv md ops n listed) : ∀ f j i, j ∈ Region.ready md ops listed → before md ops f j i = true → listed.getD i false = true
  | 0, _, _, _, h => by simp [before] at h
  | f + 1, j, i, hj, h => by
    obtain ⟨_, oj', hoj', hall⟩ := mem_ready.1 hj
    have key : ∀ k, Region.waitsFor md ops j k = true → listed.getD k false = true := fun k hk => by
      obtain ⟨oj, hoj, e, he, hb, rfl⟩ := Region.waitsFor_spec hk
      have : oj = oj' := Option.some.inj (hoj.symm.trans hoj')
      subst this
      exact hall e he hb
    simp only [before, Bool.or_eq_true, List.any_eq_true, Bool.and_eq_true] at h
    rcases h with h | ⟨k', _, h1, h2⟩
    · exact key _ h
    · exact before_listed inv f _ i (key _ h1) h2
theorem inv_set {i : Nat} {listed : Array Bool} (inv : HeadInv md ops ops.size listed) (hi : i ∈ Region.ready md ops listed) : HeadInv md ops ops.size (listed.setIfInBounds i true) :=
  inv.set hi (by obtain ⟨_, oj, hoj, _⟩ := mem_ready.1 hi; exact (Array.getElem?_eq_some_iff.1 hoj).1)
theorem wpAnyT_first {i F : Nat} {oi : Oper} {v : Value} (hi : ops[i]? = some oi) (hsel : ∀ (j : Nat) (o : Oper) cs b, ops[j]? = some o → o.op ≠ .select cs b)
    (hQ : ∀ c a w, Q (.panic c) (a.put oi.dst v) w → Q (.panic c) a w) (hL : ∀ j, L j = true → before md ops F j i = true) :
    ∀ (fuel : Nat) (listed : Array Bool) (a : Act) (w : World), HeadInv md ops ops.size listed →
      (∀ j oj, ops[j]? = some oj → j ≠ i → listed.getD j true = false → (∀ e ∈ oj.after, Region.binds md e = true → e.on ≠ i) → oi.apart ops oj = true) →
      i ∈ Region.ready md ops listed → YieldsIf P ops S oi v a → S w →
      wpAnyT P md ops Q S L fuel (listed.setIfInBounds i true) (a.put oi.dst v) w → wpAnyT P md ops Q S L (fuel + 1) listed a w := by
  intro fuel
  induction fuel with
  | zero =>
    intro listed a w inv _ hr hy hS H
    refine ⟨fun h => (by rw [h] at hr; cases hr), fun j hj => ?_⟩
    by_cases hji : j = i
    · subst hji; exact hy.wpOp hi hS ⟨.inr hS, H⟩
    · have := ready_mono hj hji
      rw [H.1] at this
      cases this
  | succ fuel ih =>
    intro listed a w inv hfree hr hy hS H
    refine ⟨fun h => (by rw [h] at hr; cases hr), fun j hj => ?_⟩
    by_cases hji : j = i
    · subst hji; exact hy.wpOp hi hS ⟨.inr hS, H⟩
    · have h1 := H.2 j (ready_mono hj hji)
      obtain ⟨hjun, oj, hoj, hall⟩ := mem_ready.1 hj
      have hiun := (mem_ready.1 hr).1
      have hLj : L j = false := by
        cases hl : L j with
        | false => rfl
        | true =>
          have := before_ready inv F j i hj (hL j hl)
          rw [getD_both hiun] at this
          cases this
      have hnot : ∀ e ∈ oj.after, Region.binds md e = true → e.on ≠ i := fun e he hb heq => by
        have h1 := hall e he hb
        rw [heq, getD_both hiun] at h1
        cases h1
      have h2 := wpOp_putIf hoj (hfree j oj hoj hji hjun hnot) (fun cs b => hsel i oi cs b hi) (fun cs b => hsel j oj cs b hoj) hQ hy h1
      have hfree' : ∀ k ok, ops[k]? = some ok → k ≠ i → (listed.setIfInBounds j true).getD k true = false →
          (∀ e ∈ ok.after, Region.binds md e = true → e.on ≠ i) → oi.apart ops ok = true := fun k ok hk hki hun hno => by
        refine hfree k ok hk hki ?_ hno
        by_cases hjk : j = k
        · subst hjk; exact hjun
        · rw [getD_set_ne true hjk] at hun; exact hun
      refine wpOp_mono (fun a' w' h3 => ?_) h2
      have hS' : S w' := h3.2.1.resolve_left (by rw [hLj]; simp)
      refine ⟨.inr hS', ih (listed.setIfInBounds j true) a' w' (inv_set inv hj) hfree' (ready_mono hr (Ne.symm hji)) h3.1 hS' ?_⟩
      rw [Array.setIfInBounds_comm _ _ hji]
      exact h3.2.2
/-! ### a plan: for each operation 'none' (ahead), 'some false' (in its order, keeps S) or 'some true' (behind all that are ahead) -/
def headsOf : List (Option Bool) → List Oper → List Oper
  | none :: m, o :: l => o :: headsOf m l
  | some _ :: m, _ :: l => headsOf m l
  | [], _ => []
  | none :: _, [] => []
  | some _ :: _, [] => []
def tailsOf : List (Option Bool) → List Oper → List (Bool × Oper)
  | none :: m, _ :: l => tailsOf m l
  | some b :: m, o :: l => (b, o) :: tailsOf m l
  | [], _ => []
  | none :: _, [] => []
  | some _ :: _, [] => []
def headIx : Nat → List (Option Bool) → List Nat
  | k, none :: m => k :: headIx (k + 1) m
  | k, some _ :: m => headIx (k + 1) m
  | _, [] => []
def tailIx : Nat → List (Option Bool) → List Nat
  | k, none :: m => tailIx (k + 1) m
  | k, some _ :: m => k :: tailIx (k + 1) m
  | _, [] => []
def headsB (md : Region.Mode) (ops : Array Oper) : List Nat → Array Bool → Option (Array Bool)
  | [], listed => some listed
  | i :: r, listed => if (Region.ready md ops listed).contains i && Region.free md ops listed i then headsB md ops r (listed.setIfInBounds i true) else none
def tailsB (md : Region.Mode) (ops : Array Oper) : List Nat → Array Bool → Bool
  | [], listed => (Region.ready md ops listed).isEmpty
  | k :: r, listed => decide (Region.ready md ops listed = [k]) && tailsB md ops r (listed.setIfInBounds k true)
def lastOf (m : List (Option Bool)) (j : Nat) : Bool := (m.getD j none).getD false
def planB (md : Region.Mode) (ops : Array Oper) (m : List (Option Bool)) : Bool :=
  Region.noSelect ops && decide (m.length = ops.size) && (match headsB md ops (headIx 0 m) (Array.replicate ops.size false) with
    | some listed => tailsB md ops (tailIx 0 m) listed
    | none => false) && (List.range ops.size).all fun j => !lastOf m j || (headIx 0 m).all fun i => before md ops ops.size j i
def wpHeads (P : Program) (ops : Array Oper) (S : World → Prop) (K : Act → Prop) : List Oper → Act → Prop
  | [], a => K a
  | o :: r, a => ∃ v, YieldsIf P ops S o v a ∧ wpHeads P ops S K r (a.put o.dst v)
/-- 'Q' but at a normal end -/
def thenN (K : Act → World → Prop) (Q : Exit → Act → World → Prop) : Exit → Act → World → Prop
  | .normal, a, w => K a w
  | e, a, w => Q e a w
def wpTails (P : Program) (ops : Array Oper) (Q : Exit → Act → World → Prop) (S : World → Prop) : List (Bool × Oper) → Act → World → Prop
  | [], a, w => Q .normal a w
  | (b, o) :: r, a, w => wpList P ops (thenN (fun a' w' => (b = true ∨ S w') ∧ wpTails P ops Q S r a' w') Q) [o] a w
theorem wpOp_of_one {i : Nat} {o : Oper} {K : Act → World → Prop} {a : Act} {w : World} (hi : ops[i]? = some o) (h : wpList P ops (thenN K Q) [o] a w) : wpOp P ops Q i K a w := by
  unfold wpOp
  simp only [hi]
  unfold wpList at h
  split at h
  · rename_i hw
    rw [if_pos hw]
    rcases h with h | ⟨h1, a', w', h2⟩
    · refine .inl ?_
      unfold Oper.wp at *
      generalize (execOp a.eval o).run P w = r at *
      cases r with
      | ok n w' =>
        cases n <;> simp only [Oper.upon] at h ⊢
        case value u => exact h
        case skip => exact h
        case defer d => exact h
        case enter f args =>
          refine Calls.mono h fun e w'' he => ?_
          cases e with
          | returned u => exact he
          | panicked c => exact he
          | outgrown => obtain ⟨a', w', h2⟩ := he; exact ⟨a', w', h2⟩
        case row row args => exact h
      | halt x w' =>
        cases x <;> simp only [Oper.upon] at h ⊢
        case panic u => exact h
    · exact .inr ⟨h1, a', w', h2⟩
  · rename_i hw
    rw [if_neg hw]
    exact h
theorem headIx_len : ∀ (m : List (Option Bool)) (k : Nat), (headIx k m).length + (tailIx k m).length = m.length
  | [], _ => rfl
  | none :: m, k => by have := headIx_len m (k + 1); simp only [headIx, tailIx, List.length_cons]; omega
  | some _ :: m, k => by have := headIx_len m (k + 1); simp only [headIx, tailIx, List.length_cons]; omega
theorem wpAnyT_heads {F : Nat} (hn : Region.noSelect ops = true) (hQ : ∀ c d v a w, Q (.panic c) (a.put d v) w → Q (.panic c) a w)
    (g : Nat) (listed' : Array Bool) (w : World) (hS : S w) (K : Act → Prop) (hK : ∀ a, HeadInv md ops ops.size listed' → K a → wpAnyT P md ops Q S L g listed' a w) :
    ∀ (is : List Nat) (os : List Oper) (listed : Array Bool) (a : Act), (∀ i ∈ is, ∀ j, L j = true → before md ops F j i = true) → HeadInv md ops ops.size listed →
      headsB md ops is listed = some listed' → is.map (ops[·]?) = os.map some → wpHeads P ops S K os a → wpAnyT P md ops Q S L (is.length + g) listed a w
  | [], [], listed, a, _, inv, hb, _, h => by
    simp only [headsB, Option.some.injEq] at hb
    subst hb
    simp only [List.length_nil, Nat.zero_add]
    exact hK a inv h
  | i :: is, o :: os, listed, a, hL, inv, hb, hm, ⟨v, hy, h⟩ => by
    simp only [headsB] at hb
    split at hb
    · rename_i hc
      simp only [Bool.and_eq_true] at hc
      simp only [List.map_cons, List.cons.injEq] at hm
      have hr : i ∈ Region.ready md ops listed := by simpa using hc.1
      rw [List.length_cons, show is.length + 1 + g = (is.length + g) + 1 by omega]
      exact wpAnyT_first hm.1 (Region.noSelect_spec hn) (fun c a w => hQ c _ _ a w) (hL i (by simp)) _ listed a w inv (Region.free_spec hm.1 hc.2) hr hy hS
        (wpAnyT_heads hn hQ g listed' w hS K hK is os _ _ (fun i hi => hL i (by simp [hi])) (inv_set inv hr) hb hm.2 h)
    · cases hb
  | [], _ :: _, _, _, _, _, _, hm, _ => by simp at hm
  | _ :: _, [], _, _, _, _, _, hm, _ => by simp at hm
theorem wpAnyT_tails : ∀ (ks : List Nat) (ts : List (Bool × Oper)) (listed : Array Bool) (a : Act) (w : World), tailsB md ops ks listed = true →
    ks.map (fun k => (L k, ops[k]?)) = ts.map (fun t => (t.1, some t.2)) → wpTails P ops Q S ts a w → wpAnyT P md ops Q S L ks.length listed a w
  | [], [], _, _, _, hb, _, h => ⟨by simpa [tailsB] using hb, h⟩
  | k :: ks, (b, o) :: ts, listed, a, w, hb, hm, h => by
    simp only [tailsB, Bool.and_eq_true, decide_eq_true_eq] at hb
    simp only [List.map_cons, List.cons.injEq, Prod.mk.injEq] at hm
    refine ⟨fun h0 => absurd (hb.1.symm.trans h0) (by simp), fun i hi => ?_⟩
    rw [hb.1] at hi
    obtain rfl : i = k := by simpa using hi
    refine wpOp_mono (fun a' w' h' => ?_) (wpOp_of_one hm.1.2 h)
    exact ⟨by rw [hm.1.1]; exact h'.1, wpAnyT_tails ks ts _ a' w' hb.2 hm.2 h'.2⟩
  | [], _ :: _, _, _, _, _, hm, _ => by simp at hm
  | _ :: _, [], _, _, _, _, hm, _ => by simp at hm
theorem heads_map (l : List Oper) : ∀ (m : List (Option Bool)) (r : List Oper) (k : Nat), m.length = r.length → (∀ j, r[j]? = l[k + j]?) → (headIx k m).map (l[·]?) = (headsOf m r).map some
  | [], [], _, _, _ => rfl
  | none :: m, o :: r, k, hl, h => by
    have h0 := h 0
    simp only [List.getElem?_cons_zero, Nat.add_zero] at h0
    simp only [headIx, headsOf, List.map_cons, ← h0]
    rw [heads_map l m r (k + 1) (by simpa using hl) (fun j => by have := h (j + 1); simpa [Nat.add_assoc, Nat.add_comm 1 j] using this)]
  | some _ :: m, o :: r, k, hl, h => by
    simp only [headIx, headsOf]
    exact heads_map l m r (k + 1) (by simpa using hl) (fun j => by have := h (j + 1); simpa [Nat.add_assoc, Nat.add_comm 1 j] using this)
  | [], _ :: _, _, hl, _ => by simp at hl
  | _ :: _, [], _, hl, _ => by simp at hl
theorem tails_map (l : List Oper) (M : List (Option Bool)) : ∀ (m : List (Option Bool)) (r : List Oper) (k : Nat), m.length = r.length → (∀ j, r[j]? = l[k + j]?) → (∀ j, m[j]? = M[k + j]?) → (tailIx k m).map (fun k => (lastOf M k, l[k]?)) = (tailsOf m r).map (fun t => (t.1, some t.2))
  | [], [], _, _, _, _ => rfl
  | none :: m, o :: r, k, hl, h, hM => by
    simp only [tailIx, tailsOf]
    exact tails_map l M m r (k + 1) (by simpa using hl) (fun j => by have := h (j + 1); simpa [Nat.add_assoc, Nat.add_comm 1 j] using this) (fun j => by have := hM (j + 1); simpa [Nat.add_assoc, Nat.add_comm 1 j] using this)
  | some b :: m, o :: r, k, hl, h, hM => by
    have h0 := h 0
    have hM0 := hM 0
    simp only [List.getElem?_cons_zero, Nat.add_zero] at h0 hM0
    simp only [tailIx, tailsOf, List.map_cons, ← h0]
    rw [tails_map l M m r (k + 1) (by simpa using hl) (fun j => by have := h (j + 1); simpa [Nat.add_assoc, Nat.add_comm 1 j] using this) (fun j => by have := hM (j + 1); simpa [Nat.add_assoc, Nat.add_comm 1 j] using this)]
    simp [lastOf, List.getD_eq_getElem?_getD, ← hM0]
  | [], _ :: _, _, hl, _, _ => by simp at hl
  | _ :: _, [], _, hl, _, _ => by simp at hl
/-- a region by a plan -/
theorem region_plan {id : Nat} {l : List Oper} {a : Act} {w : World} (m : List (Option Bool)) (S : World → Prop) (hm : P.follows .mixedOrders = true) (hB : planB .any l.toArray m = true)
    (hQ : ∀ c d v a w, Q (.panic c) (a.put d v) w → Q (.panic c) a w) (hS : S w.drew)
    (h : ∀ OPS : Array Oper, wpHeads P OPS S (fun a' => wpTails P OPS Q S (tailsOf m l) a' w.drew) (headsOf m l) a) : (Code.region id l.toArray true).wp P Q a w := by
  simp only [planB, Bool.and_eq_true, decide_eq_true_eq, List.all_eq_true] at hB
  obtain ⟨⟨⟨h1, h2⟩, h3⟩, h4⟩ := hB
  refine wp_region_any hm (wpAny_of_T (S := S) (L := lastOf m) _ _ _ _ ?_)
  show wpAnyT P .any l.toArray Q S (lastOf m) l.toArray.size _ a w.drew
  cases hh : headsB .any l.toArray (headIx 0 m) (Array.replicate l.toArray.size false) with
  | none => rw [hh] at h3; cases h3
  | some listed =>
    rw [hh] at h3
    have hlen := headIx_len m 0
    rw [h2] at hlen
    have hml : m.length = l.length := by simpa using h2
    have key := wpAnyT_heads (P := P) (ops := l.toArray) (Q := Q) (md := .any) (S := S) (L := lastOf m) (F := l.toArray.size) h1 hQ (tailIx 0 m).length listed w.drew hS (fun a' => wpTails P l.toArray Q S (tailsOf m l) a' w.drew)
      (fun a' _ hK => wpAnyT_tails (tailIx 0 m) (tailsOf m l) listed a' w.drew h3 (by simpa using tails_map l m m l 0 hml (by simp) (by simp)) hK)
      (headIx 0 m) (headsOf m l) (Array.replicate l.toArray.size false) a ?_ ⟨by simp, (fun j oj _ hj => by rw [getD_replicate_false] at hj; cases hj), (fun t ht ht' => by omega)⟩ hh (by simpa using heads_map l m l 0 hml (by simp)) (h _)
    · rw [hlen] at key
      exact key
    · intro i hi j hj
      by_cases hjl : j < l.toArray.size
      · have := h4 j (by simpa using hjl)
        simp only [Bool.or_eq_true, Bool.not_eq_true', List.all_eq_true] at this
        rcases this with h | h
        · rw [hj] at h; cases h
        · exact h i hi
      · unfold lastOf at hj
        rw [List.getD_eq_getElem?_getD, List.getElem?_eq_none (by simp at hjl; omega)] at hj
        cases hj
end
section
variable {P : Program} {ops : Array Oper} {Q : Exit → Act → World → Prop} {S : World → Prop} {K : Act → Prop} {a : Act} {w : World} {d : Option Tmp} {op : Op} {ty : TypeId} {pos : String} {af : Array Edge} {R : Act → World → Prop}
theorem h_val {v : Value} {rest : List Oper} (hrun : ∀ w, S w → (execOp a.eval { dst := d, op := op, type := ty, pos := pos, after := af, guard := none }).run P w = .ok (.value v) w) (h : wpHeads P ops S K rest (a.put d v)) : wpHeads P ops S K ({ dst := d, op := op, type := ty, pos := pos, after := af, guard := none } :: rest) a :=
  ⟨v, .inl ⟨rfl, hrun⟩, h⟩
theorem h_nil (h : K a) : wpHeads P ops S K [] a := h
theorem t_one {b : Bool} {o : Oper} {rest : List (Bool × Oper)} (h : wpList P ops (thenN (fun a' w' => (b = true ∨ S w') ∧ wpTails P ops Q S rest a' w') Q) [o] a w) : wpTails P ops Q S ((b, o) :: rest) a w := h
theorem t_nil (h : Q .normal a w) : wpTails P ops Q S [] a w := h
theorem t_keep {b : Bool} {rest : List (Bool × Oper)} (hS : S w) (h : wpTails P ops Q S rest a w) : wpList P ops (thenN (fun a' w' => (b = true ∨ S w') ∧ wpTails P ops Q S rest a' w') Q) [] a w := ⟨.inr hS, h⟩
theorem t_last {rest : List (Bool × Oper)} (h : wpTails P ops Q S rest a w) : wpList P ops (thenN (fun a' w' => (true = true ∨ S w') ∧ wpTails P ops Q S rest a' w') Q) [] a w := ⟨.inl rfl, h⟩
theorem only_panic : ∀ (c : List PanicEntry) (d : Option Tmp) (v : Value) (a : Act) (w : World), only R (.panic c) (a.put d v) w → only R (.panic c) a w := fun _ _ _ _ _ h => by cases h.1
theorem l_call {f : FuncId} {args : Array Value} {rest : List Oper} (hrun : (execOp a.eval { dst := d, op := op, type := ty, pos := pos, after := af, guard := none }).run P w = .ok (.enter f args) w)
    (hc : Calls P f args w fun e w'' => ∃ v, e = .returned v ∧ wpList P ops Q rest (a.put d v) w'') : wpList P ops Q ({ dst := d, op := op, type := ty, pos := pos, after := af, guard := none } :: rest) a w := by
  refine wpList_plain rfl fun K hK => ?_
  unfold Oper.wp
  rw [hrun]
  refine Calls.mono hc ?_
  rintro e w'' ⟨v, rfl, h⟩
  exact hK _ _ h
theorem g_list {id : Nat} {l : List Oper} (h : ∀ OPS : Array Oper, wpList P OPS Q l a w) : (Code.region id l.toArray false).wp P Q a w := wp_region_lit (h l.toArray)
theorem g_nil {N : Act → World → Prop} (h : N a w) : wpList P ops (Exit.then N Q) [] a w := h
theorem g_then {N : Act → World → Prop} (h : N a w) : Exit.then N Q .normal a w := h
theorem o_plan {id : Nat} {l : List Oper} (m : List (Option Bool)) (S : World → Prop) (hm : P.follows .mixedOrders = true) (hB : planB .any l.toArray m = true) (hS : S w.drew)
    (h : ∀ OPS : Array Oper, wpHeads P OPS S (fun a' => wpTails P OPS (only R) S (tailsOf m l) a' w.drew) (headsOf m l) a) : (Code.region id l.toArray true).wp P (only R) a w :=
  region_plan m S hm hB only_panic hS h
theorem g_plan {id : Nat} {l : List Oper} (m : List (Option Bool)) (S : World → Prop) (hm : P.follows .mixedOrders = true) (hB : planB .any l.toArray m = true) (hS : S w.drew)
    (h : ∀ OPS : Array Oper, wpHeads P OPS S (fun a' => wpTails P OPS (only (Q .normal)) S (tailsOf m l) a' w.drew) (headsOf m l) a) : (Code.region id l.toArray true).wp P Q a w :=
  o_link (o_plan m S hm hB hS h) fun _ _ h => h
theorem t_end (h : R a w) : wpTails P ops (only R) S [] a w := ⟨rfl, h⟩
end
end Go.Proofs.YtfbdjfljgcfikaaDoor
