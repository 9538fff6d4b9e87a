/-
  A region by a mixed plan that may fork: where two operations are ready that must be walked alone, each comes first in a plan of its own.
-/
import Derived.Test.YtlljjddgbilipaaGreatDoorTxAbs
namespace Go.Proofs.YtlljjddgbilipaaGreatDoor
open Go.RowKit

set_option linter.unusedSimpArgs false

/-- a plan: operation k, walked as b says; a fork: either i and then p, or j and then q -/
inductive PT where
  | nil : PT
  | cons : Nat → Nat → PT → PT
  | fork : Nat → PT → Nat → PT → PT
def PT.len : PT → Nat
  | .nil => 0
  | .cons _ _ r => r.len + 1
  | .fork _ p _ _ => p.len + 1
def PT.lt (n : Nat) : PT → Bool
  | .nil => true
  | .cons k _ r => decide (k < n) && r.lt n
  | .fork i p j q => decide (i < n) && decide (j < n) && p.lt n && q.lt n
def PT.of : List (Nat × Nat) → PT → PT
  | [], t => t
  | (k, b) :: r, t => .cons k b (PT.of r t)
inductive OT where
  | nil : OT
  | cons : Nat → Oper → OT → OT
  | fork : Oper → OT → Oper → OT → OT
def consT (b : Nat) (o : Option Oper) (r : OT) : OT :=
  match o with
  | some o => .cons b o r
  | none => r
def forkT (o1 : Option Oper) (p : OT) (o2 : Option Oper) (q : OT) : OT :=
  match o1, o2 with
  | some o1, some o2 => .fork o1 p o2 q
  | _, _ => .nil
theorem consT_some (b : Nat) (o : Oper) (r : OT) : consT b (some o) r = .cons b o r := rfl
theorem forkT_some (o1 o2 : Oper) (p q : OT) : forkT (some o1) p (some o2) q = .fork o1 p o2 q := rfl
def mixT : PT → List Oper → OT
  | .nil, _ => .nil
  | .cons k b r, l => consT b (nthO k l) (mixT r l)
  | .fork i p j q, l => forkT (nthO i l) (mixT p l) (nthO j l) (mixT q l)
section
variable {P : Program} {ops : Array Oper} {Q : Exit → Act → World → Prop} {md : Region.Mode} {S : World → Prop} {L : Nat → Bool}
def mixTB (md : Region.Mode) (ops : Array Oper) (L : Nat → Bool) : PT → Bool → Array Bool → Bool
  | .nil, _, listed => (Region.ready md ops listed).isEmpty
  | .cons k 0 r, d, listed => !d && !L k && (Region.ready md ops listed).contains k && Region.free md ops listed k && ((List.range ops.size).all fun j => !L j || before md ops ops.size j k) && mixTB md ops L r d (listed.setIfInBounds k true)
  | .cons k 1 r, d, listed => !L k && (Region.ready md ops listed).contains k && Region.free md ops listed k && mixTB md ops L r d (listed.setIfInBounds k true)
  | .cons k 2 r, d, listed => !d && !L k && decide (Region.ready md ops listed = [k]) && mixTB md ops L r d (listed.setIfInBounds k true)
  | .cons k (_ + 3) r, d, listed => (d || L k) && decide (Region.ready md ops listed = [k]) && mixTB md ops L r true (listed.setIfInBounds k true)
  | .fork i p j q, d, listed => !d && !L i && !L j && decide (p.len = q.len) && decide (Region.ready md ops listed = [i, j]) && mixTB md ops L p d (listed.setIfInBounds i true) && mixTB md ops L q d (listed.setIfInBounds j true)
def wpT (P : Program) (ops : Array Oper) (Q : Exit → Act → World → Prop) (S : World → Prop) : OT → Act → World → Prop
  | .nil, a, w => Q .normal a w
  | .cons 0 o r, a, w => ∃ v, YieldsIf P ops S o v a ∧ S w ∧ wpT P ops Q S r (a.put o.dst v) w
  | .cons 1 o r, a, w => ∃ v, YieldsIf P ops (fun _ => True) o v a ∧ wpT P ops Q S r (a.put o.dst v) w
  | .cons 2 o r, a, w => wpList P ops (thenN (fun a' w' => S w' ∧ wpT P ops Q S r a' w') Q) [o] a w
  | .cons (_ + 3) o r, a, w => wpList P ops (thenN (fun a' w' => wpT P ops Q S r a' w') Q) [o] a w
  | .fork o1 p o2 q, a, w => wpList P ops (thenN (fun a' w' => S w' ∧ wpT P ops Q S p a' w') Q) [o1] a w ∧ wpList P ops (thenN (fun a' w' => S w' ∧ wpT P ops Q S q a' w') Q) [o2] a w
theorem wpAnyD_mixT (hn : Region.noSelect ops = true) (hLm : ∀ j, ops.size ≤ j → L j = false) (hQ : ∀ c d v a w, Q (.panic c) (a.put d v) w → Q (.panic c) a w) (l : List Oper) (hl : ops = l.toArray) :
    ∀ (m : PT) (d : Bool) (listed : Array Bool) (a : Act) (w : World), m.lt ops.size = true → listed.size = ops.size → mixTB md ops L m d listed = true → HeadInv md ops ops.size listed → (d = dn L ops.size listed) → (d = true ∨ S w) → wpT P ops Q S (mixT m l) a w → wpAnyD P md ops Q S L m.len listed a w
  | .nil, d, listed, a, w, _, _, hb, _, _, _, h => ⟨by simpa [mixTB] using hb, h⟩
  | .cons k 0 r, d, listed, a, w, hx, hz, hb, inv, hd, hS, h => by
    simp only [mixTB, Bool.and_eq_true, List.all_eq_true, Bool.or_eq_true, Bool.not_eq_true'] at hb
    obtain ⟨⟨⟨⟨⟨h0, h0'⟩, h1⟩, h2⟩, h3⟩, h4⟩ := hb
    simp only [PT.lt, Bool.and_eq_true, decide_eq_true_eq] at hx
    obtain ⟨hk, hx⟩ := hx
    obtain ⟨o, ho⟩ : ∃ o, l[k]? = some o := ⟨_, List.getElem?_eq_getElem (by rw [hl] at hk; simpa using hk)⟩
    have hops : ops[k]? = some o := by rw [hl]; simpa using ho
    simp only [mixT, nthO_eq, ho, consT_some, wpT] at h
    obtain ⟨v, hy, hSw, h⟩ := h
    have hr : k ∈ Region.ready md ops listed := by simpa using h1
    have hdf : dn L ops.size listed = false := by rw [← hd]; exact h0
    refine wpAnyD_take (S' := S) (F := ops.size) hops (Region.noSelect_spec hn) (fun c a w => hQ c _ _ a w) h0' (.inr ⟨rfl, fun j hj => ?_⟩) _ listed a w inv (Region.free_spec hops h2) hr hy (.inr hdf) (.inr hSw)
      (wpAnyD_mixT hn hLm hQ l hl r d _ _ w hx (by simp [hz]) h4 (inv_set inv hr) ?_ (.inr hSw) h)
    · by_cases hjl : j < ops.size
      · rcases h3 j (by simpa using hjl) with h | h
        · rw [hj] at h; cases h
        · exact h
      · rw [hLm j (by omega)] at hj; cases hj
    · cases hh : dn L ops.size (listed.setIfInBounds k true) with
      | false => exact h0
      | true => rw [dn_back h0' hh] at hdf; cases hdf
  | .cons k 1 r, d, listed, a, w, hx, hz, hb, inv, hd, hS, h => by
    simp only [mixTB, Bool.and_eq_true, Bool.not_eq_true'] at hb
    obtain ⟨⟨⟨h0', h1⟩, h2⟩, h4⟩ := hb
    simp only [PT.lt, Bool.and_eq_true, decide_eq_true_eq] at hx
    obtain ⟨hk, hx⟩ := hx
    obtain ⟨o, ho⟩ : ∃ o, l[k]? = some o := ⟨_, List.getElem?_eq_getElem (by rw [hl] at hk; simpa using hk)⟩
    have hops : ops[k]? = some o := by rw [hl]; simpa using ho
    simp only [mixT, nthO_eq, ho, consT_some, wpT] at h
    obtain ⟨v, hy, h⟩ := h
    have hr : k ∈ Region.ready md ops listed := by simpa using h1
    have hsame : d = dn L ops.size (listed.setIfInBounds k true) := by
      rw [hd]
      cases hh : dn L ops.size (listed.setIfInBounds k true) with
      | true => exact dn_back h0' hh
      | false =>
        cases hg : dn L ops.size listed with
        | false => rfl
        | true => rw [dn_set hg] at hh; cases hh
    refine wpAnyD_take (S' := fun _ => True) (F := ops.size) hops (Region.noSelect_spec hn) (fun c a w => hQ c _ _ a w) h0' (.inl fun _ => trivial) _ listed a w inv (Region.free_spec hops h2) hr hy (.inl fun _ => trivial) (by rw [← hd]; exact hS)
      (wpAnyD_mixT hn hLm hQ l hl r d _ _ w hx (by simp [hz]) h4 (inv_set inv hr) hsame hS h)
  | .cons k 2 r, d, listed, a, w, hx, hz, hb, inv, hd, hS, h => by
    simp only [mixTB, Bool.and_eq_true, decide_eq_true_eq, Bool.not_eq_true'] at hb
    obtain ⟨⟨⟨h0, h0'⟩, h1⟩, h4⟩ := hb
    simp only [PT.lt, Bool.and_eq_true, decide_eq_true_eq] at hx
    obtain ⟨hk, hx⟩ := hx
    obtain ⟨o, ho⟩ : ∃ o, l[k]? = some o := ⟨_, List.getElem?_eq_getElem (by rw [hl] at hk; simpa using hk)⟩
    have hops : ops[k]? = some o := by rw [hl]; simpa using ho
    simp only [mixT, nthO_eq, ho, consT_some, wpT] at h
    have hdf : dn L ops.size listed = false := by rw [← hd]; exact h0
    have hsame : d = dn L ops.size (listed.setIfInBounds k true) := by
      rw [h0]
      cases hh : dn L ops.size (listed.setIfInBounds k true) with
      | false => rfl
      | true => rw [dn_back h0' hh] at hdf; cases hdf
    refine ⟨fun h0 => absurd (h1.symm.trans h0) (by simp), fun i hi => ?_⟩
    have hi' := hi
    rw [h1] at hi
    obtain rfl : i = k := by simpa using hi
    refine wpOp_mono (fun a' w' h' => ?_) (wpOp_of_one hops h)
    exact ⟨.inr h'.1, wpAnyD_mixT hn hLm hQ l hl r d _ a' w' hx (by simp [hz]) h4 (inv_set inv hi') hsame (.inr h'.1) h'.2⟩
  | .cons k (b + 3) r, d, listed, a, w, hx, hz, hb, inv, hd, hS, h => by
    simp only [mixTB, Bool.and_eq_true, decide_eq_true_eq, Bool.or_eq_true] at hb
    obtain ⟨⟨h0, h1⟩, h4⟩ := hb
    simp only [PT.lt, Bool.and_eq_true, decide_eq_true_eq] at hx
    obtain ⟨hk, hx⟩ := hx
    obtain ⟨o, ho⟩ : ∃ o, l[k]? = some o := ⟨_, List.getElem?_eq_getElem (by rw [hl] at hk; simpa using hk)⟩
    have hops : ops[k]? = some o := by rw [hl]; simpa using ho
    simp only [mixT, nthO_eq, ho, consT_some, wpT] at h
    have hnow : dn L ops.size (listed.setIfInBounds k true) = true := by
      rcases h0 with h0 | h0
      · rw [hd] at h0; exact dn_set h0
      · exact dn_now hk (by rw [hz]; exact hk) h0
    refine ⟨fun h0 => absurd (h1.symm.trans h0) (by simp), fun i hi => ?_⟩
    have hi' := hi
    rw [h1] at hi
    obtain rfl : i = k := by simpa using hi
    refine wpOp_mono (fun a' w' h' => ?_) (wpOp_of_one hops h)
    exact ⟨.inl hnow, wpAnyD_mixT hn hLm hQ l hl r true _ a' w' hx (by simp [hz]) h4 (inv_set inv hi') hnow.symm (.inl rfl) h'⟩
  | .fork i p j q, d, listed, a, w, hx, hz, hb, inv, hd, hS, h => by
    simp only [mixTB, Bool.and_eq_true, decide_eq_true_eq, Bool.not_eq_true'] at hb
    obtain ⟨⟨⟨⟨⟨⟨h0, hLi⟩, hLj⟩, hlen⟩, h1⟩, hp⟩, hq⟩ := hb
    simp only [PT.lt, Bool.and_eq_true, decide_eq_true_eq] at hx
    obtain ⟨⟨⟨hi, hj⟩, hxp⟩, hxq⟩ := hx
    obtain ⟨oi, hoi⟩ : ∃ o, l[i]? = some o := ⟨_, List.getElem?_eq_getElem (by rw [hl] at hi; simpa using hi)⟩
    obtain ⟨oj, hoj⟩ : ∃ o, l[j]? = some o := ⟨_, List.getElem?_eq_getElem (by rw [hl] at hj; simpa using hj)⟩
    have hopi : ops[i]? = some oi := by rw [hl]; simpa using hoi
    have hopj : ops[j]? = some oj := by rw [hl]; simpa using hoj
    simp only [mixT, nthO_eq, hoi, hoj, forkT_some, wpT] at h
    have hdf : dn L ops.size listed = false := by rw [← hd]; exact h0
    have hsame : ∀ k, L k = false → d = dn L ops.size (listed.setIfInBounds k true) := fun k hk => by
      rw [h0]
      cases hh : dn L ops.size (listed.setIfInBounds k true) with
      | false => rfl
      | true => rw [dn_back hk hh] at hdf; cases hdf
    refine ⟨fun h0 => absurd (h1.symm.trans h0) (by simp), fun k hk => ?_⟩
    have hk' := hk
    rw [h1] at hk
    simp only [List.mem_cons, List.not_mem_nil, or_false] at hk
    rcases hk with rfl | rfl
    · refine wpOp_mono (fun a' w' h' => ?_) (wpOp_of_one hopi h.1)
      exact ⟨.inr h'.1, wpAnyD_mixT hn hLm hQ l hl p d _ a' w' hxp (by simp [hz]) hp (inv_set inv hk') (hsame _ hLi) (.inr h'.1) h'.2⟩
    · refine wpOp_mono (fun a' w' h' => ?_) (wpOp_of_one hopj h.2)
      have hh := wpAnyD_mixT hn hLm hQ l hl q d _ a' w' hxq (by simp [hz]) hq (inv_set inv hk') (hsame _ hLj) (.inr h'.1) h'.2
      rw [← hlen] at hh
      exact ⟨.inr h'.1, hh⟩
def planT (md : Region.Mode) (ops : Array Oper) (lk : Nat) (m : PT) : Bool :=
  Region.noSelect ops && decide (m.len = ops.size) && m.lt ops.size && decide (lk < ops.size) && mixTB md ops (fun j => lk == j) m false (Array.replicate ops.size false)
theorem o_mixt {id : Nat} {l : List Oper} {R : Act → World → Prop} {a : Act} {w : World} (lk : Nat) (m : PT) (S : World → Prop) (hm : P.follows .mixedOrders = true) (hB : planT .any l.toArray lk m = true) (hS : S w.drew)
    (h : ∀ OPS : Array Oper, wpT P OPS (only R) S (mixT m l) a w.drew) : (Code.region id l.toArray true).wp P (only R) a w := by
  simp only [planT, Bool.and_eq_true, decide_eq_true_eq] at hB
  obtain ⟨⟨⟨⟨h1, h2⟩, h3⟩, hlk⟩, h4⟩ := hB
  refine wp_region_any hm (wpAny_of_D (S := S) (L := fun j => lk == j) _ _ _ _ ?_)
  show wpAnyD P .any l.toArray (only R) S (fun j => lk == j) l.toArray.size _ a w.drew
  have hdn : false = dn (fun j => lk == j) l.toArray.size (Array.replicate l.toArray.size false) := by
    symm
    unfold dn
    rw [List.any_eq_false]
    intro x _
    rw [getD_replicate_false]
    simp
  have key := wpAnyD_mixT (P := P) (ops := l.toArray) (Q := only R) (md := .any) (S := S) (L := fun j => lk == j) h1 (fun j hj => by rw [beq_eq_false_iff_ne]; omega) only_panic l rfl m false (Array.replicate l.toArray.size false) a w.drew h3 (by simp) h4
    ⟨by simp, (fun j oj _ hj => by rw [getD_replicate_false] at hj; cases hj), (fun t ht ht' => by omega)⟩ hdn (.inr hS) (h _)
  rw [h2] at key
  exact key
theorem g_mixt {id : Nat} {l : List Oper} {a : Act} {w : World} (lk : Nat) (m : PT) (S : World → Prop) (hm : P.follows .mixedOrders = true) (hB : planT .any l.toArray lk m = true) (hS : S w.drew)
    (h : ∀ OPS : Array Oper, wpT P OPS (only (Q .normal)) S (mixT m l) a w.drew) : (Code.region id l.toArray true).wp P Q a w :=
  o_link (o_mixt lk m S hm hB hS h) fun _ _ h => h
end
section
variable {P : Program} {ops : Array Oper} {Q : Exit → Act → World → Prop} {S : World → Prop} {a : Act} {w : World} {d : Option Tmp} {op : Op} {ty : TypeId} {pos : String} {af : Array Edge} {R : Act → World → Prop}
theorem pt_val {v : Value} {rest : OT} (hrun : ∀ w, S w → (execOp a.eval { dst := d, op := op, type := ty, pos := pos, after := af, guard := none }).run P w = .ok (.value v) w) (hS : S w) (h : wpT P ops Q S rest (a.put d v) w) :
    wpT P ops Q S (.cons 0 { dst := d, op := op, type := ty, pos := pos, after := af, guard := none } rest) a w := ⟨v, .inl ⟨rfl, hrun⟩, hS, h⟩
theorem pt_any {v : Value} {rest : OT} (hrun : ∀ w, (execOp a.eval { dst := d, op := op, type := ty, pos := pos, after := af, guard := none }).run P w = .ok (.value v) w) (h : wpT P ops Q S rest (a.put d v) w) :
    wpT P ops Q S (.cons 1 { dst := d, op := op, type := ty, pos := pos, after := af, guard := none } rest) a w := ⟨v, .inl ⟨rfl, fun w _ => hrun w⟩, h⟩
theorem pt_one {o : Oper} {rest : OT} (h : wpList P ops (thenN (fun a' w' => S w' ∧ wpT P ops Q S rest a' w') Q) [o] a w) : wpT P ops Q S (.cons 2 o rest) a w := h
theorem pt_keep {rest : OT} (hS : S w) (h : wpT P ops Q S rest a w) : wpList P ops (thenN (fun a' w' => S w' ∧ wpT P ops Q S rest a' w') Q) [] a w := ⟨hS, h⟩
theorem pt_three {o : Oper} {rest : OT} (h : wpList P ops (thenN (fun a' w' => wpT P ops Q S rest a' w') Q) [o] a w) : wpT P ops Q S (.cons 3 o rest) a w := h
theorem pt_last {rest : OT} (h : wpT P ops Q S rest a w) : wpList P ops (thenN (fun a' w' => wpT P ops Q S rest a' w') Q) [] a w := h
theorem pt_fork {o1 o2 : Oper} {p q : OT} (h1 : wpList P ops (thenN (fun a' w' => S w' ∧ wpT P ops Q S p a' w') Q) [o1] a w) (h2 : wpList P ops (thenN (fun a' w' => S w' ∧ wpT P ops Q S q a' w') Q) [o2] a w) : wpT P ops Q S (.fork o1 p o2 q) a w := ⟨h1, h2⟩
theorem pt_end (h : R a w) : wpT P ops (only R) S .nil a w := ⟨rfl, h⟩
end
end Go.Proofs.YtlljjddgbilipaaGreatDoor
