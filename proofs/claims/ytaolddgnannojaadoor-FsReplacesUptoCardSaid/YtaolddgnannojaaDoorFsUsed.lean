/-
  Which files are used: counted in a map.
-/
import Derived.Test.YtaolddgnannojaaDoorFsClone
namespace Go.Proofs.YtaolddgnannojaaDoor
open Go.RowKit Go.Maps

attribute [local go_sem] lt1 lt2 lt3 lt4 lt5 lt6

theorem wf_le {m : Nat} (h : (Lit.int .i64 (m : Nat)).wf = true) : m ≤ 9223372036854775807 := by
  simp [Lit.wf, IntKind.min, IntKind.max, IntKind.signed, IntKind.bits] at h
  omega
def vals : Dm → List Nat
  | .map es => es.map fun p => natOf p.2
  | _ => []
theorem natOf_nval (n : Nat) : natOf (nval n) = n := rfl
theorem nval_inj {a b : Nat} (h : nval a = nval b) : a = b := by
  have := congrArg natOf h
  exact this
theorem vals_has {D : Dm} (hc : Canon D) (hn : Nats D) (k : Nat) : k ∈ vals D ↔ ∃ kl, has D kl = true ∧ D.atKey kl (nval 0) = nval k := by
  obtain ⟨es, rfl, hp, hk⟩ := hc
  have hap := apart_of_rising hp
  unfold vals
  simp only [List.mem_map]
  constructor
  · rintro ⟨p, hpm, rfl⟩
    have hat := WideAt.atKey_mem (nval 0) (hk p hpm) hap (d := p.2) hpm
    obtain ⟨m, hm⟩ := hn.2 p.1
    refine ⟨p.1, ?_, ?_⟩
    · rw [has_eq, List.any_eq_true]
      exact ⟨p, hpm, WideAt.sameKey_self (hk p hpm)⟩
    · rw [hat] at hm ⊢
      rw [hm, natOf_nval]
  · rintro ⟨kl, hh, hat⟩
    rw [has_eq, List.any_eq_true] at hh
    obtain ⟨p, hpm, hs⟩ := hh
    have e := WideAt.sameKey_eq hs
    have h2 := WideAt.atKey_mem (nval 0) (hk p hpm) hap (d := p.2) hpm
    rw [e, hat] at h2
    exact ⟨p, hpm, by rw [← h2]; rfl⟩
/-- the map that counts -/
def UsedAt (w : World) (um t : Nat) (f : Nat → Nat) : Prop :=
  ∃ D, w.ownsMap Tryd.prog 3 (plainElem Tryd.prog 3) um t D ∧ (∀ k : Nat, D.atKey (ik k) (nval 0) = nval (f k)) ∧ ∀ k, f k ≤ t
theorem UsedAt.made (w : World) : UsedAt (w.alloc (.map #[] 0)) w.heap.size 0 (fun _ => 0) :=
  ⟨_, World.ownsMap_made w _ _ _, fun _ => rfl, fun _ => Nat.le_refl _⟩
theorem UsedAt.run {w : World} {um t : Nat} {f : Nat → Nat} (h : UsedAt w um t f) (k : Nat) (hk : k ≤ 9223372036854775807) :
    (Instr.lookup 91 (.map (some um)) (.int .i64 (k : Nat)) false).run Tryd.prog w = .ok (.int .i64 (f k : Nat)) w := by
  obtain ⟨D, h1, h2, _⟩ := h
  obtain ⟨c, hr, hat, _⟩ := h1.lookup_int intK Tryd.underlying91 Tryd.underlying3 (zeroInt w) (keyOf_int_mk (a := (k : Int)) Tryd.underlying3 (WalkArith.wf_i64 (by omega)))
  have h3 : (DataW.lit (Lit.int .i64 c) : Dm) = nval (f k) := hat.symm.trans (h2 k)
  simp only [nval, DataW.lit.injEq, Lit.int.injEq, true_and] at h3
  rw [hr, h3]
theorem UsedAt.kept {w w' : World} {um t : Nat} {f : Nat → Nat} (h : UsedAt w um t f) {S : List Nat} (hf : Fr S w w') (hu : um ∉ S) : UsedAt w' um t f := by
  obtain ⟨D, h1, h2, h3⟩ := h
  exact ⟨D, map_kept h1 hf hu, h2, h3⟩
def bump (f : Nat → Nat) (k : Nat) : Nat → Nat := fun j => if j = k then f k + 1 else f j
theorem UsedAt.lt {w : World} {um t : Nat} {f : Nat → Nat} (h : UsedAt w um t f) : um < w.heap.size := by
  obtain ⟨D, h1, _⟩ := h
  exact h1.lt
theorem wpList_bump {w : World} {ops : Array Oper} {rest : List Oper} {o : Oper} {a : Act} {Q : Exit → Act → World → Prop} (hgd : o.guard = none) (m x v : Operand)
    (ho : o.op = .mapUpdate 91 m x v) (um t k : Nat) (f : Nat → Nat) (hm : a.eval m = .map (some um)) (hx : a.eval x = .int .i64 (k : Nat)) (hv : a.eval v = .int .i64 ((f k : Int) + 1)) (hk : k ≤ 9223372036854775807) (h : UsedAt w um t f) (ht : t ≤ 10995116277760)
    (hK : ∀ w', UsedAt w' um (t + 1) (bump f k) → w.grownBy w' (some um) → wpList Tryd.prog ops Q rest (a.put o.dst undef) w') : wpList Tryd.prog ops Q (o :: rest) a w := by
  obtain ⟨D, h1, h2, h3⟩ := h
  have hfk := h3 k
  refine wpList_mapUpdate_own w hgd m x v 91 ho 3 3 intK Tryd.underlying91 (plainElem Tryd.prog 3) um t D hm h1 (by unfold maxLen; omega) (.int .i64 (k : Nat)) (.int .i64 ((f k : Int) + 1)) (ik k) hx hv (keyOf_int_mk (a := (k : Int)) Tryd.underlying3 (WalkArith.wf_i64 (by omega))) (nval (f k + 1)) [] (plainNat (f k + 1) (by omega)) fun w' ho' hg => ?_
  refine hK w' ⟨_, ho', fun j => ?_, fun j => ?_⟩ hg
  · unfold bump
    by_cases e : j = k
    · subst e
      rw [if_pos rfl]
      exact atKey_put_same h1.isMap (by trivial) _ _
    · rw [if_neg e]
      rw [atKey_put_other (by unfold ik; simp; omega)]
      exact h2 j
  · unfold bump
    split
    · omega
    · have := h3 j; omega
/-- which numbers have been counted, while a map is run through -/
def Counted (L0 : List Nat) (D : Dm) (left : Lit → Bool) (f : Nat → Nat) : Prop :=
  ∀ k, f k ≠ 0 ↔ (k ∈ L0 ∨ ∃ kl, has D kl = true ∧ left kl = false ∧ D.atKey kl (nval 0) = nval k)
theorem Counted.start {L0 : List Nat} {f : Nat → Nat} (h : ∀ k, f k ≠ 0 ↔ k ∈ L0) (D : Dm) : Counted L0 D (has D) f := fun k => by
  rw [h k]
  constructor
  · exact .inl
  · rintro (h | ⟨kl, h1, h2, _⟩)
    · exact h
    · rw [h1] at h2; cases h2
theorem bump_ne (f : Nat → Nat) (k j : Nat) : bump f k j ≠ 0 ↔ (f j ≠ 0 ∨ j = k) := by
  unfold bump
  split
  · rename_i h; simp [h]
  · rename_i h; simp [h]
theorem Counted.step {L0 : List Nat} {D : Dm} {left : Lit → Bool} {f : Nat → Nat} (h : Counted L0 D left f) {kl : Lit} {m : Nat} (hat : ∀ zd, D.atKey kl zd = nval m) :
    Counted L0 D (fun z => left z && !z.sameKey kl) (bump f m) := fun k => by
  rw [bump_ne, h k]
  have hh := has_true_of_atKey hat
  constructor
  · rintro ((h1 | ⟨k2, h1, h2, h3⟩) | rfl)
    · exact .inl h1
    · exact .inr ⟨k2, h1, by simp [h2], h3⟩
    · have hk : kl.sameKey kl = true := by
        have := hh
        cases D with
        | map es =>
          rw [has_eq, List.any_eq_true] at this
          obtain ⟨p, _, hp⟩ := this
          have e := WideAt.sameKey_eq hp
          rw [e] at hp
          exact hp
        | _ => cases this
      exact .inr ⟨kl, hh, by simp [hk], hat _⟩
  · rintro (h1 | ⟨k2, h1, h2, h3⟩)
    · exact .inl (.inl h1)
    · simp only [Bool.and_eq_false_iff, Bool.not_eq_false'] at h2
      rcases h2 with h2 | h2
      · exact .inl (.inr ⟨k2, h1, h2, h3⟩)
      · have e := WideAt.sameKey_eq h2
        subst e
        rw [hat] at h3
        exact .inr (nval_inj h3).symm
theorem Counted.end_ {L0 : List Nat} {D : Dm} {left : Lit → Bool} {f : Nat → Nat} (h : Counted L0 D left f) (hl : ∀ kl, left kl = false) (hc : Canon D) (hn : Nats D) : ∀ k, f k ≠ 0 ↔ k ∈ L0 ++ vals D := fun k => by
  rw [h k, List.mem_append, vals_has hc hn]
  constructor
  · rintro (h1 | ⟨kl, h1, _, h3⟩)
    · exact .inl h1
    · exact .inr ⟨kl, h1, h3⟩
  · rintro (h1 | ⟨kl, h1, h3⟩)
    · exact .inl h1
    · exact .inr ⟨kl, h1, hl kl, h3⟩
/-! ### settle -/
def durOf (D : Dm) (l : List Pend) : Dm := l.foldl (fun D p => p.chg.on D) D
theorem durOf_snoc (D : Dm) (l : List Pend) (p : Pend) : durOf D (l ++ [p]) = p.chg.on (durOf D l) := by simp [durOf]
theorem Nats.durOf {D : Dm} (h : Nats D) : ∀ l : List Pend, Nats (durOf D l) := by
  intro l
  induction l generalizing D with
  | nil => exact h
  | cons p l ih => exact ih (h.chg p.chg)
def usedL (N D : Dm) (P : List Pend) : List Nat := vals N ++ vals D ++ P.map (·.file)
def FsSt.settle (S : FsSt) (n : Nat) : FsSt :=
  { S with dur := durOf S.dur (S.pend.take n), pend := S.pend.drop n, files := S.files.filter fun e => (usedL S.names (durOf S.dur (S.pend.take n)) (S.pend.drop n)).contains e.1 }
end Go.Proofs.YtaolddgnannojaaDoor
