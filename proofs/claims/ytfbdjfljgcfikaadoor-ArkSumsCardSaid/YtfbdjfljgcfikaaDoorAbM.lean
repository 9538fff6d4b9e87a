/-
  A region by a plan in which what is taken ahead and what comes in its order may be mixed: the plan names the operations in the order in which they are to be walked.
-/
import Derived.Test.YtfbdjfljgcfikaaDoorAbH
namespace Go.Proofs.YtfbdjfljgcfikaaDoor
open Go.RowKit

section
variable {P : Program} {ops : Array Oper} {Q : Exit → Act → World → Prop} {md : Region.Mode} {S : World → Prop} {L : Nat → Bool}
theorem wpAnyT_take {i F : Nat} {oi : Oper} {v : Value} (hi : ops[i]? = some oi) (hsel : ∀ (j : Nat) (o : Oper) cs b, ops[j]? = some o → o.op ≠ .select cs b)
    (hQ : ∀ c a w, Q (.panic c) (a.put oi.dst v) w → Q (.panic c) a w) :
    ∀ (fuel : Nat) (listed : Array Bool) (a : Act) (w : World), HeadInv md ops ops.size listed → (∀ j, L j = true → listed.getD j false = true ∨ before md ops F j i = true) →
      (∀ j oj, ops[j]? = some oj → j ≠ i → listed.getD j true = false → (∀ e ∈ oj.after, Region.binds md e = true → e.on ≠ i) → oi.apart ops oj = true) →
      i ∈ Region.ready md ops listed → YieldsIf P ops S oi v a → S w →
      wpAnyT P md ops Q S L fuel (listed.setIfInBounds i true) (a.put oi.dst v) w → wpAnyT P md ops Q S L (fuel + 1) listed a w := by
  intro fuel
  induction fuel with
  | zero =>
    intro listed a w inv _ _ hr hy hS H
    refine ⟨fun h => (by rw [h] at hr; cases hr), fun j hj => ?_⟩
    by_cases hji : j = i
    · subst hji; exact hy.wpOp hi hS ⟨.inr hS, H⟩
    · have := ready_mono hj hji
      rw [H.1] at this
      cases this
  | succ fuel ih =>
    intro listed a w inv hL hfree hr hy hS H
    refine ⟨fun h => (by rw [h] at hr; cases hr), fun j hj => ?_⟩
    by_cases hji : j = i
    · subst hji; exact hy.wpOp hi hS ⟨.inr hS, H⟩
    · have h1 := H.2 j (ready_mono hj hji)
      obtain ⟨hjun, oj, hoj, hall⟩ := mem_ready.1 hj
      have hiun := (mem_ready.1 hr).1
      have hLj : L j = false := by
        cases hl : L j with
        | false => rfl
        | true =>
          rcases hL j hl with h | h
          · rw [getD_both hjun] at h
            cases h
          · have := before_ready inv F j i hj h
            rw [getD_both hiun] at this
            cases this
      have hnot : ∀ e ∈ oj.after, Region.binds md e = true → e.on ≠ i := fun e he hb heq => by
        have h1 := hall e he hb
        rw [heq, getD_both hiun] at h1
        cases h1
      have h2 := wpOp_putIf hoj (hfree j oj hoj hji hjun hnot) (fun cs b => hsel i oi cs b hi) (fun cs b => hsel j oj cs b hoj) hQ hy h1
      have hfree' : ∀ k ok, ops[k]? = some ok → k ≠ i → (listed.setIfInBounds j true).getD k true = false →
          (∀ e ∈ ok.after, Region.binds md e = true → e.on ≠ i) → oi.apart ops ok = true := fun k ok hk hki hun hno => by
        refine hfree k ok hk hki ?_ hno
        by_cases hjk : j = k
        · subst hjk; exact hjun
        · rw [getD_set_ne true hjk] at hun; exact hun
      have hL' : ∀ k, L k = true → (listed.setIfInBounds j true).getD k false = true ∨ before md ops F k i = true := fun k hk => (hL k hk).imp (fun h => getD_set_true h) id
      refine wpOp_mono (fun a' w' h3 => ?_) h2
      have hS' : S w' := h3.2.1.resolve_left (by rw [hLj]; simp)
      refine ⟨.inr hS', ih (listed.setIfInBounds j true) a' w' (inv_set inv hj) hL' hfree' (ready_mono hr (Ne.symm hji)) h3.1 hS' ?_⟩
      rw [Array.setIfInBounds_comm _ _ hji]
      exact h3.2.2
def nthO : Nat → List Oper → Option Oper
  | 0, o :: _ => some o
  | n + 1, _ :: l => nthO n l
  | _, [] => none
theorem nthO_eq : ∀ (n : Nat) (l : List Oper), nthO n l = l[n]?
  | 0, o :: l => rfl
  | n + 1, o :: l => by rw [nthO, nthO_eq n l]; rfl
  | 0, [] => rfl
  | n + 1, [] => rfl
def consO (b : Option Bool) (o : Option Oper) (r : List (Option Bool × Oper)) : List (Option Bool × Oper) :=
  match o with
  | some o => (b, o) :: r
  | none => r
theorem consO_some (b : Option Bool) (o : Oper) (r : List (Option Bool × Oper)) : consO b (some o) r = (b, o) :: r := rfl
def mixOf : List (Nat × Option Bool) → List Oper → List (Option Bool × Oper)
  | [], _ => []
  | x :: m, l => consO x.2 (nthO x.1 l) (mixOf m l)
def lastM (m : List (Nat × Option Bool)) (j : Nat) : Bool := m.any fun x => x.1 == j && x.2 == some true
def mixB (md : Region.Mode) (ops : Array Oper) (L : Nat → Bool) : List (Nat × Option Bool) → Array Bool → Bool
  | [], listed => (Region.ready md ops listed).isEmpty
  | (k, none) :: r, listed => (Region.ready md ops listed).contains k && Region.free md ops listed k && ((List.range ops.size).all fun j => !L j || listed.getD j false || before md ops ops.size j k) && mixB md ops L r (listed.setIfInBounds k true)
  | (k, some b) :: r, listed => decide (Region.ready md ops listed = [k]) && (b == L k) && mixB md ops L r (listed.setIfInBounds k true)
def mixPlan (md : Region.Mode) (ops : Array Oper) (m : List (Nat × Option Bool)) : Bool :=
  Region.noSelect ops && decide (m.length = ops.size) && (m.all fun x => decide (x.1 < ops.size)) && mixB md ops (lastM m) m (Array.replicate ops.size false)
def wpMix (P : Program) (ops : Array Oper) (Q : Exit → Act → World → Prop) (S : World → Prop) : List (Option Bool × Oper) → Act → World → Prop
  | [], a, w => Q .normal a w
  | (none, o) :: r, a, w => ∃ v, YieldsIf P ops S o v a ∧ S w ∧ wpMix P ops Q S r (a.put o.dst v) w
  | (some b, o) :: r, a, w => wpList P ops (thenN (fun a' w' => (b = true ∨ S w') ∧ wpMix P ops Q S r a' w') Q) [o] a w
theorem wpAnyT_mix (hn : Region.noSelect ops = true) (hLm : ∀ j, ops.size ≤ j → L j = false) (hQ : ∀ c d v a w, Q (.panic c) (a.put d v) w → Q (.panic c) a w) (l : List Oper) (hl : ops = l.toArray) :
    ∀ (m : List (Nat × Option Bool)) (listed : Array Bool) (a : Act) (w : World), (∀ x ∈ m, x.1 < ops.size) → mixB md ops L m listed = true → HeadInv md ops ops.size listed → wpMix P ops Q S (mixOf m l) a w → wpAnyT P md ops Q S L m.length listed a w
  | [], listed, a, w, _, hb, _, h => ⟨by simpa [mixB] using hb, h⟩
  | (k, none) :: r, listed, a, w, hx, hb, inv, h => by
    simp only [mixB, Bool.and_eq_true, List.all_eq_true, Bool.or_eq_true, Bool.not_eq_true'] at hb
    obtain ⟨⟨⟨h1, h2⟩, h3⟩, h4⟩ := hb
    have hk : k < ops.size := hx (k, none) (by simp)
    obtain ⟨o, ho⟩ : ∃ o, l[k]? = some o := ⟨_, List.getElem?_eq_getElem (by rw [hl] at hk; simpa using hk)⟩
    have hops : ops[k]? = some o := by rw [hl]; simpa using ho
    simp only [mixOf, nthO_eq, ho, consO_some] at h
    obtain ⟨v, hy, hS, h⟩ := h
    have hr : k ∈ Region.ready md ops listed := by simpa using h1
    refine wpAnyT_take (F := ops.size) hops (Region.noSelect_spec hn) (fun c a w => hQ c _ _ a w) _ listed a w inv (fun j hj => ?_) (Region.free_spec hops h2) hr hy hS
      (wpAnyT_mix hn hLm hQ l hl r _ _ w (fun x hx' => hx x (by simp [hx'])) h4 (inv_set inv hr) h)
    by_cases hjl : j < ops.size
    · rcases h3 j (by simpa using hjl) with (h | h) | h
      · rw [hj] at h; cases h
      · exact .inl h
      · exact .inr h
    · rw [hLm j (by omega)] at hj; cases hj
  | (k, some b) :: r, listed, a, w, hx, hb, inv, h => by
    simp only [mixB, Bool.and_eq_true, decide_eq_true_eq, beq_iff_eq] at hb
    obtain ⟨⟨h1, h2⟩, h4⟩ := hb
    have hk : k < ops.size := hx (k, some b) (by simp)
    obtain ⟨o, ho⟩ : ∃ o, l[k]? = some o := ⟨_, List.getElem?_eq_getElem (by rw [hl] at hk; simpa using hk)⟩
    have hops : ops[k]? = some o := by rw [hl]; simpa using ho
    simp only [mixOf, nthO_eq, ho, consO_some] at h
    refine ⟨fun h0 => absurd (h1.symm.trans h0) (by simp), fun i hi => ?_⟩
    have hi' := hi
    rw [h1] at hi
    obtain rfl : i = k := by simpa using hi
    refine wpOp_mono (fun a' w' h' => ?_) (wpOp_of_one hops h)
    exact ⟨by rw [← h2]; exact h'.1, wpAnyT_mix hn hLm hQ l hl r _ a' w' (fun x hx' => hx x (by simp [hx'])) h4 (inv_set inv hi') h'.2⟩
theorem o_mix {id : Nat} {l : List Oper} {R : Act → World → Prop} {a : Act} {w : World} (m : List (Nat × Option Bool)) (S : World → Prop) (hm : P.follows .mixedOrders = true) (hB : mixPlan .any l.toArray m = true)
    (h : ∀ OPS : Array Oper, wpMix P OPS (only R) S (mixOf m l) a w.drew) : (Code.region id l.toArray true).wp P (only R) a w := by
  simp only [mixPlan, Bool.and_eq_true, decide_eq_true_eq, List.all_eq_true] at hB
  obtain ⟨⟨⟨h1, h2⟩, h3⟩, h4⟩ := hB
  refine wp_region_any hm (wpAny_of_T (S := S) (L := lastM m) _ _ _ _ ?_)
  show wpAnyT P .any l.toArray (only R) S (lastM m) l.toArray.size _ a w.drew
  have key := wpAnyT_mix (P := P) (ops := l.toArray) (Q := only R) (md := .any) (S := S) (L := lastM m) h1 (fun j hj => ?_) only_panic l rfl m (Array.replicate l.toArray.size false) a w.drew h3 h4
    ⟨by simp, (fun j oj _ hj => by rw [getD_replicate_false] at hj; cases hj), (fun t ht ht' => by omega)⟩ (h _)
  · rw [h2] at key
    exact key
  · unfold lastM
    rw [List.any_eq_false]
    intro x hx hh
    simp only [Bool.and_eq_true, beq_iff_eq] at hh
    have := h3 x hx
    omega
theorem g_mix {id : Nat} {l : List Oper} {a : Act} {w : World} (m : List (Nat × Option Bool)) (S : World → Prop) (hm : P.follows .mixedOrders = true) (hB : mixPlan .any l.toArray m = true)
    (h : ∀ OPS : Array Oper, wpMix P OPS (only (Q .normal)) S (mixOf m l) a w.drew) : (Code.region id l.toArray true).wp P Q a w :=
  o_link (o_mix m S hm hB h) fun _ _ h => h
end
section
variable {P : Program} {ops : Array Oper} {Q : Exit → Act → World → Prop} {S : World → Prop} {a : Act} {w : World} {d : Option Tmp} {op : Op} {ty : TypeId} {pos : String} {af : Array Edge} {R : Act → World → Prop}
theorem m_val {v : Value} {rest : List (Option Bool × Oper)} (hrun : ∀ w, S w → (execOp a.eval { dst := d, op := op, type := ty, pos := pos, after := af, guard := none }).run P w = .ok (.value v) w) (hS : S w) (h : wpMix P ops Q S rest (a.put d v) w) :
    wpMix P ops Q S ((none, { dst := d, op := op, type := ty, pos := pos, after := af, guard := none }) :: rest) a w := ⟨v, .inl ⟨rfl, hrun⟩, hS, h⟩
theorem m_one {b : Bool} {o : Oper} {rest : List (Option Bool × Oper)} (h : wpList P ops (thenN (fun a' w' => (b = true ∨ S w') ∧ wpMix P ops Q S rest a' w') Q) [o] a w) : wpMix P ops Q S ((some b, o) :: rest) a w := h
theorem m_keep {b : Bool} {rest : List (Option Bool × Oper)} (hS : S w) (h : wpMix P ops Q S rest a w) : wpList P ops (thenN (fun a' w' => (b = true ∨ S w') ∧ wpMix P ops Q S rest a' w') Q) [] a w := ⟨.inr hS, h⟩
theorem m_last {rest : List (Option Bool × Oper)} (h : wpMix P ops Q S rest a w) : wpList P ops (thenN (fun a' w' => (true = true ∨ S w') ∧ wpMix P ops Q S rest a' w') Q) [] a w := ⟨.inl rfl, h⟩
theorem m_end (h : R a w) : wpMix P ops (only R) S [] a w := ⟨rfl, h⟩
end
end Go.Proofs.YtfbdjfljgcfikaaDoor
