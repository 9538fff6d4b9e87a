/-
  Plain: a constraint's text as a tree; the laws of truth.
-/
import Derived.Test.YtniphdhbgebedaaGreatDoorBase
namespace Go.Proofs.YtniphdhbgebedaaGreatDoor

inductive Ex where
  | tag : List UInt8 → Ex
  | not : Ex → Ex
  | and : Ex → Ex → Ex
  | or : Ex → Ex → Ex
def Ex.ev (has : List UInt8 → Bool) : Ex → Bool
  | .tag t => has t
  | .not x => !x.ev has
  | .and a b => a.ev has && b.ev has
  | .or a b => a.ev has || b.ev has
def Ex.tags : Ex → List (List UInt8)
  | .tag t => [t]
  | .not x => x.tags
  | .and a b => a.tags ++ b.tags
  | .or a b => a.tags ++ b.tags
def blankB (c : UInt8) : Bool := c == 32 || c == 9
def skipB (s : List UInt8) : List UInt8 := s.dropWhile blankB
def signP (g s : List UInt8) : Bool × List UInt8 := if g.isPrefixOf (skipB s) = true then (true, (skipB s).drop g.length) else (false, skipB s)
def tagB (c : UInt8) : Bool := (97 ≤ c && c ≤ 122) || (65 ≤ c && c ≤ 90) || c == 95 || (48 ≤ c && c ≤ 57) || c == 46
def sgn : Nat → List UInt8
  | 1 => [38, 38]
  | _ => [124, 124]
def opE : Nat → Ex → Ex → Ex
  | 1, a, b => .and a b
  | _, a, b => .or a b
inductive PK where
  | at : Nat → PK
  | more : Nat → Ex → PK
/-- how a constraint is read: 0: what ! binds; 1: what && binds; 2: all -/
inductive Par : PK → List UInt8 → Option Ex → List UInt8 → Prop where
  | bangNo {s s1 r} : signP [33] s = (true, s1) → Par (.at 0) s1 none r → Par (.at 0) s none r
  | bang {s s1 r x} : signP [33] s = (true, s1) → Par (.at 0) s1 (some x) r → Par (.at 0) s (some (.not x)) r
  | inNo {s s1 s2 r} : signP [33] s = (false, s1) → signP [40] s1 = (true, s2) → Par (.at 2) s2 none r → Par (.at 0) s none r
  | open_ {s s1 s2 s3 s4 x} : signP [33] s = (false, s1) → signP [40] s1 = (true, s2) → Par (.at 2) s2 (some x) s3 → signP [41] s3 = (false, s4) → Par (.at 0) s none s4
  | paren {s s1 s2 s3 s4 x} : signP [33] s = (false, s1) → signP [40] s1 = (true, s2) → Par (.at 2) s2 (some x) s3 → signP [41] s3 = (true, s4) → Par (.at 0) s (some x) s4
  | noTag {s s1 s2} : signP [33] s = (false, s1) → signP [40] s1 = (false, s2) → s2.takeWhile tagB = [] → Par (.at 0) s none s2
  | tag {s s1 s2} : signP [33] s = (false, s1) → signP [40] s1 = (false, s2) → s2.takeWhile tagB ≠ [] → Par (.at 0) s (some (.tag (s2.takeWhile tagB))) (s2.dropWhile tagB)
  | firstNo {l s r} : Par (.at l) s none r → Par (.at (l + 1)) s none r
  | first {l s s1 x res r} : Par (.at l) s (some x) s1 → Par (.more (l + 1) x) s1 res r → Par (.at (l + 1)) s res r
  | stop {l s s1 x} : signP (sgn l) s = (false, s1) → Par (.more l x) s (some x) s1
  | moreNo {l s s1 r x} : signP (sgn (l + 1)) s = (true, s1) → Par (.at l) s1 none r → Par (.more (l + 1) x) s none r
  | more {l s s1 s2 r x y res} : signP (sgn (l + 1)) s = (true, s1) → Par (.at l) s1 (some y) s2 → Par (.more (l + 1) (opE (l + 1) x y)) s2 res r → Par (.more (l + 1) x) s res r
theorem Par.det {k : PK} {s : List UInt8} {a : Option Ex} {r : List UInt8} (h : Par k s a r) : ∀ {a' r'}, Par k s a' r' → a = a' ∧ r = r' := by
  induction h with
  | bangNo h1 h2 ih =>
    intro a' r' h'
    cases h' with
    | bangNo k1 k2 => rw [h1] at k1; cases k1; exact ih k2
    | bang k1 k2 => rw [h1] at k1; cases k1; exact absurd (ih k2).1 (by simp)
    | inNo k1 _ _ => rw [h1] at k1; cases k1
    | open_ k1 _ _ _ => rw [h1] at k1; cases k1
    | paren k1 _ _ _ => rw [h1] at k1; cases k1
    | noTag k1 _ _ => rw [h1] at k1; cases k1
    | tag k1 _ _ => rw [h1] at k1; cases k1
  | bang h1 h2 ih =>
    intro a' r' h'
    cases h' with
    | bangNo k1 k2 => rw [h1] at k1; cases k1; exact absurd (ih k2).1 (by simp)
    | bang k1 k2 => rw [h1] at k1; cases k1; obtain ⟨e1, e2⟩ := ih k2; cases e1; exact ⟨rfl, e2⟩
    | inNo k1 _ _ => rw [h1] at k1; cases k1
    | open_ k1 _ _ _ => rw [h1] at k1; cases k1
    | paren k1 _ _ _ => rw [h1] at k1; cases k1
    | noTag k1 _ _ => rw [h1] at k1; cases k1
    | tag k1 _ _ => rw [h1] at k1; cases k1
  | inNo h1 h2 h3 ih =>
    intro a' r' h'
    cases h' with
    | bangNo k1 k2 => rw [h1] at k1; cases k1
    | bang k1 k2 => rw [h1] at k1; cases k1
    | inNo k1 k2 k3 => rw [h1] at k1; cases k1; rw [h2] at k2; cases k2; exact ih k3
    | open_ k1 k2 k3 _ => rw [h1] at k1; cases k1; rw [h2] at k2; cases k2; exact absurd (ih k3).1 (by simp)
    | paren k1 k2 k3 _ => rw [h1] at k1; cases k1; rw [h2] at k2; cases k2; exact absurd (ih k3).1 (by simp)
    | noTag k1 k2 _ => rw [h1] at k1; cases k1; rw [h2] at k2; cases k2
    | tag k1 k2 _ => rw [h1] at k1; cases k1; rw [h2] at k2; cases k2
  | open_ h1 h2 h3 h4 ih =>
    intro a' r' h'
    cases h' with
    | bangNo k1 k2 => rw [h1] at k1; cases k1
    | bang k1 k2 => rw [h1] at k1; cases k1
    | inNo k1 k2 k3 => rw [h1] at k1; cases k1; rw [h2] at k2; cases k2; exact absurd (ih k3).1 (by simp)
    | open_ k1 k2 k3 k4 => rw [h1] at k1; cases k1; rw [h2] at k2; cases k2; obtain ⟨_, e2⟩ := ih k3; subst e2; rw [h4] at k4; cases k4; exact ⟨rfl, rfl⟩
    | paren k1 k2 k3 k4 => rw [h1] at k1; cases k1; rw [h2] at k2; cases k2; obtain ⟨_, e2⟩ := ih k3; subst e2; rw [h4] at k4; cases k4
    | noTag k1 k2 _ => rw [h1] at k1; cases k1; rw [h2] at k2; cases k2
    | tag k1 k2 _ => rw [h1] at k1; cases k1; rw [h2] at k2; cases k2
  | paren h1 h2 h3 h4 ih =>
    intro a' r' h'
    cases h' with
    | bangNo k1 k2 => rw [h1] at k1; cases k1
    | bang k1 k2 => rw [h1] at k1; cases k1
    | inNo k1 k2 k3 => rw [h1] at k1; cases k1; rw [h2] at k2; cases k2; exact absurd (ih k3).1 (by simp)
    | open_ k1 k2 k3 k4 => rw [h1] at k1; cases k1; rw [h2] at k2; cases k2; obtain ⟨_, e2⟩ := ih k3; subst e2; rw [h4] at k4; cases k4
    | paren k1 k2 k3 k4 => rw [h1] at k1; cases k1; rw [h2] at k2; cases k2; obtain ⟨e1, e2⟩ := ih k3; cases e1; subst e2; rw [h4] at k4; cases k4; exact ⟨rfl, rfl⟩
    | noTag k1 k2 _ => rw [h1] at k1; cases k1; rw [h2] at k2; cases k2
    | tag k1 k2 _ => rw [h1] at k1; cases k1; rw [h2] at k2; cases k2
  | noTag h1 h2 h3 =>
    intro a' r' h'
    cases h' with
    | bangNo k1 k2 => rw [h1] at k1; cases k1
    | bang k1 k2 => rw [h1] at k1; cases k1
    | inNo k1 k2 k3 => rw [h1] at k1; cases k1; rw [h2] at k2; cases k2
    | open_ k1 k2 k3 _ => rw [h1] at k1; cases k1; rw [h2] at k2; cases k2
    | paren k1 k2 k3 _ => rw [h1] at k1; cases k1; rw [h2] at k2; cases k2
    | noTag k1 k2 _ => rw [h1] at k1; cases k1; rw [h2] at k2; cases k2; exact ⟨rfl, rfl⟩
    | tag k1 k2 k3 => rw [h1] at k1; cases k1; rw [h2] at k2; cases k2; exact absurd h3 k3
  | tag h1 h2 h3 =>
    intro a' r' h'
    cases h' with
    | bangNo k1 k2 => rw [h1] at k1; cases k1
    | bang k1 k2 => rw [h1] at k1; cases k1
    | inNo k1 k2 k3 => rw [h1] at k1; cases k1; rw [h2] at k2; cases k2
    | open_ k1 k2 k3 _ => rw [h1] at k1; cases k1; rw [h2] at k2; cases k2
    | paren k1 k2 k3 _ => rw [h1] at k1; cases k1; rw [h2] at k2; cases k2
    | noTag k1 k2 k3 => rw [h1] at k1; cases k1; rw [h2] at k2; cases k2; exact absurd k3 h3
    | tag k1 k2 k3 => rw [h1] at k1; cases k1; rw [h2] at k2; cases k2; exact ⟨rfl, rfl⟩
  | firstNo h1 ih =>
    intro a' r' h'
    cases h' with
    | firstNo k1 => exact ih k1
    | first k1 k2 => exact absurd (ih k1).1 (by simp)
  | first h1 h2 ih1 ih2 =>
    intro a' r' h'
    cases h' with
    | firstNo k1 => exact absurd (ih1 k1).1 (by simp)
    | first k1 k2 =>
      obtain ⟨e1, e2⟩ := ih1 k1
      cases e1
      subst e2
      exact ih2 k2
  | stop h1 =>
    intro a' r' h'
    cases h' with
    | stop k1 => rw [h1] at k1; cases k1; exact ⟨rfl, rfl⟩
    | moreNo k1 _ => rw [h1] at k1; cases k1
    | more k1 _ _ => rw [h1] at k1; cases k1
  | moreNo h1 h2 ih =>
    intro a' r' h'
    cases h' with
    | stop k1 => rw [h1] at k1; cases k1
    | moreNo k1 k2 => rw [h1] at k1; cases k1; exact ih k2
    | more k1 k2 _ => rw [h1] at k1; cases k1; exact absurd (ih k2).1 (by simp)
  | more h1 h2 h3 ih1 ih2 =>
    intro a' r' h'
    cases h' with
    | stop k1 => rw [h1] at k1; cases k1
    | moreNo k1 k2 => rw [h1] at k1; cases k1; exact absurd (ih1 k2).1 (by simp)
    | more k1 k2 k3 =>
      rw [h1] at k1
      cases k1
      obtain ⟨e1, e2⟩ := ih1 k2
      cases e1
      subst e2
      exact ih2 k3
/-! ### what stands behind a closing parenthesis changes nothing of what is read before -/
theorem skip_app (s : List UInt8) {t : List UInt8} (ht : t.head? = some 41) : skipB (s ++ t) = skipB s ++ t := by
  unfold skipB
  induction s with
  | nil =>
    cases t with
    | nil => simp at ht
    | cons c r =>
      simp only [List.head?_cons, Option.some.injEq] at ht
      subst ht
      rfl
  | cons c r ih =>
    rw [List.cons_append, List.dropWhile_cons, List.dropWhile_cons]
    split
    · exact ih
    · rfl
theorem pre_app : ∀ (g u : List UInt8) {t : List UInt8}, t.head? = some 41 → 41 ∉ g → g.isPrefixOf (u ++ t) = g.isPrefixOf u
  | [], u, t, _, _ => by simp
  | c :: g, [], t, ht, hg => by
    cases t with
    | nil => simp at ht
    | cons d r =>
      simp only [List.head?_cons, Option.some.injEq] at ht
      subst ht
      simp only [List.mem_cons, not_or] at hg
      simp [List.isPrefixOf]
      intro h
      exact absurd h.symm hg.1
  | c :: g, d :: u, t, ht, hg => by
    rw [List.cons_append, List.isPrefixOf, List.isPrefixOf, pre_app g u ht (by simp only [List.mem_cons, not_or] at hg; exact hg.2)]
theorem sign_app {g s s1 : List UInt8} {b : Bool} {t : List UInt8} (ht : t.head? = some 41) (hg : 41 ∉ g) (h : signP g s = (b, s1)) : signP g (s ++ t) = (b, s1 ++ t) := by
  unfold signP at h ⊢
  rw [skip_app s ht, pre_app g _ ht hg]
  split at h
  · rename_i hp
    rw [if_pos hp]
    cases h
    rw [List.drop_append_of_le_length (List.IsPrefix.length_le (List.isPrefixOf_iff_prefix.1 hp))]
  · rename_i hp
    rw [if_neg hp]
    cases h
    rfl
theorem sign_close {s s1 t : List UInt8} (h : signP [41] s = (true, s1)) (ht : t.head? = some 41) : signP [41] (s ++ t) = (true, s1 ++ t) := by
  unfold signP at h ⊢
  rw [skip_app s ht]
  split at h
  · rename_i hp
    cases h
    have hpre := List.isPrefixOf_iff_prefix.1 hp
    rw [if_pos (List.isPrefixOf_iff_prefix.2 (hpre.trans (List.prefix_append _ _)))]
    rw [List.drop_append_of_le_length (List.IsPrefix.length_le hpre)]
  · cases h
theorem tag_app (s : List UInt8) {t : List UInt8} (ht : t.head? = some 41) : (s ++ t).takeWhile tagB = s.takeWhile tagB ∧ (s ++ t).dropWhile tagB = s.dropWhile tagB ++ t := by
  induction s with
  | nil =>
    cases t with
    | nil => simp at ht
    | cons c r =>
      simp only [List.head?_cons, Option.some.injEq] at ht
      subst ht
      exact ⟨rfl, rfl⟩
  | cons c r ih =>
    rw [List.cons_append, List.takeWhile_cons, List.takeWhile_cons, List.dropWhile_cons, List.dropWhile_cons]
    split
    · exact ⟨by rw [ih.1], ih.2⟩
    · exact ⟨rfl, rfl⟩
theorem sgn_no (l : Nat) : (41 : UInt8) ∉ sgn l := by
  unfold sgn
  split <;> decide
theorem Par.app {k : PK} {s : List UInt8} {a : Option Ex} {r : List UInt8} (h : Par k s a r) : ∀ {x : Ex} {t : List UInt8}, a = some x → t.head? = some 41 → Par k (s ++ t) (some x) (r ++ t) := by
  induction h with
  | bangNo _ _ _ => intro x t e; cases e
  | bang h1 h2 ih => intro x t e ht; cases e; exact .bang (sign_app ht (by decide) h1) (ih rfl ht)
  | inNo _ _ _ _ => intro x t e; cases e
  | open_ _ _ _ _ _ => intro x t e; cases e
  | paren h1 h2 h3 h4 ih => intro x t e ht; cases e; exact .paren (sign_app ht (by decide) h1) (sign_app ht (by decide) h2) (ih rfl ht) (sign_close h4 ht)
  | noTag _ _ _ => intro x t e; cases e
  | @tag s s1 s2 h1 h2 h3 =>
    intro x t e ht
    cases e
    have h := tag_app s2 ht
    have h' := Par.tag (sign_app ht (by decide) h1) (sign_app ht (by decide) h2) (by rw [h.1]; exact h3)
    rw [h.1, h.2] at h'
    exact h'
  | firstNo _ _ => intro x t e; cases e
  | first h1 h2 ih1 ih2 => intro x t e ht; exact .first (ih1 rfl ht) (ih2 e ht)
  | stop h1 => intro x t e ht; cases e; exact .stop (sign_app ht (sgn_no _) h1)
  | moreNo _ _ _ => intro x t e; cases e
  | more h1 h2 h3 ih1 ih2 => intro x t e ht; exact .more (sign_app ht (sgn_no _) h1) (ih1 rfl ht) (ih2 e ht)
/-- a text that is a constraint -/
def Whole (s : List UInt8) (x : Ex) : Prop := ∃ r, Par (.at 2) s (some x) r ∧ r.all blankB = true
theorem skip_blank {r : List UInt8} (h : r.all blankB = true) (t : List UInt8) (ht : ∀ c, t.head? = some c → blankB c = false) : skipB (r ++ t) = t := by
  unfold skipB
  induction r with
  | nil =>
    cases t with
    | nil => rfl
    | cons c u => rw [List.nil_append, List.dropWhile_cons, if_neg (by rw [ht c rfl]; decide)]
  | cons c u ih =>
    rw [List.all_cons, Bool.and_eq_true] at h
    rw [List.cons_append, List.dropWhile_cons, if_pos h.1]
    exact ih h.2
/-- in parentheses it is a unit -/
def inP (a u : List UInt8) : List UInt8 := 40 :: (a ++ 41 :: u)
theorem unit {a : List UInt8} {x : Ex} (h : Whole a x) (u : List UInt8) : Par (.at 0) (inP a u) (some x) u := by
  obtain ⟨r, h1, h2⟩ := h
  refine .paren (s1 := inP a u) (s2 := a ++ 41 :: u) (s3 := r ++ 41 :: u) rfl rfl (h1.app rfl rfl) ?_
  unfold signP
  rw [skip_blank h2 _ (by intro c hc; cases hc; decide)]
  rfl
theorem tags_in {k : PK} {s : List UInt8} {a : Option Ex} {r : List UInt8} (h : Par k s a r) : (r <:+ s) ∧ ∀ x, a = some x → ∀ t ∈ x.tags, t <:+: s ∨ ∃ l y, k = .more l y ∧ t ∈ y.tags := by
  have hsk : ∀ s, skipB s <:+ s := fun s => List.dropWhile_suffix _
  have hsg : ∀ {g s b s1}, signP g s = (b, s1) → s1 <:+ s := fun {g s b s1} h => by
    unfold signP at h
    split at h
    · cases h; exact (List.drop_suffix _ _).trans (hsk s)
    · cases h; exact hsk s
  induction h with
  | bangNo h1 h2 ih => exact ⟨ih.1.trans (hsg h1), fun x e => by cases e⟩
  | bang h1 h2 ih =>
    refine ⟨ih.1.trans (hsg h1), fun x e t ht => ?_⟩
    cases e
    rcases ih.2 _ rfl t ht with h | ⟨_, _, h, _⟩
    · exact .inl (h.trans (hsg h1).isInfix)
    · cases h
  | inNo h1 h2 h3 ih => exact ⟨ih.1.trans ((hsg h2).trans (hsg h1)), fun x e => by cases e⟩
  | open_ h1 h2 h3 h4 ih => exact ⟨(hsg h4).trans (ih.1.trans ((hsg h2).trans (hsg h1))), fun x e => by cases e⟩
  | paren h1 h2 h3 h4 ih =>
    refine ⟨(hsg h4).trans (ih.1.trans ((hsg h2).trans (hsg h1))), fun x e t ht => ?_⟩
    cases e
    rcases ih.2 _ rfl t ht with h | ⟨_, _, h, _⟩
    · exact .inl (h.trans ((hsg h2).trans (hsg h1)).isInfix)
    · cases h
  | noTag h1 h2 h3 => exact ⟨(hsg h2).trans (hsg h1), fun x e => by cases e⟩
  | tag h1 h2 h3 =>
    refine ⟨(List.dropWhile_suffix _).trans ((hsg h2).trans (hsg h1)), fun x e t ht => ?_⟩
    cases e
    simp only [Ex.tags, List.mem_singleton] at ht
    subst ht
    exact .inl ((List.takeWhile_prefix _).isInfix.trans ((hsg h2).trans (hsg h1)).isInfix)
  | firstNo h1 ih => exact ⟨ih.1, fun x e => by cases e⟩
  | first h1 h2 ih1 ih2 =>
    refine ⟨ih2.1.trans ih1.1, fun x e t ht => ?_⟩
    rcases ih2.2 _ e t ht with h | ⟨l, y, h, hy⟩
    · exact .inl (h.trans ih1.1.isInfix)
    · cases h
      rcases ih1.2 _ rfl t hy with h | ⟨_, _, h, _⟩
      · exact .inl h
      · cases h
  | stop h1 => exact ⟨hsg h1, fun x e t ht => by cases e; exact .inr ⟨_, _, rfl, ht⟩⟩
  | moreNo h1 h2 ih => exact ⟨ih.1.trans (hsg h1), fun x e => by cases e⟩
  | @more l s s1 s2 r p q res h1 h2 h3 ih1 ih2 =>
    refine ⟨ih2.1.trans (ih1.1.trans (hsg h1)), fun x e t ht => ?_⟩
    rcases ih2.2 _ e t ht with h | ⟨l, y, h, hy⟩
    · exact .inl (h.trans (ih1.1.trans (hsg h1)).isInfix)
    · cases h
      have hm : t ∈ p.tags ∨ t ∈ q.tags := by
        unfold opE at hy
        split at hy
        · simpa [Ex.tags] using hy
        · simpa [Ex.tags] using hy
      rcases hm with hm | hm
      · exact .inr ⟨_, _, rfl, hm⟩
      · rcases ih1.2 _ rfl t hm with h | ⟨_, _, h, _⟩
        · exact .inl (h.trans (hsg h1).isInfix)
        · cases h
theorem ev_same {x : Ex} {f g : List UInt8 → Bool} (h : ∀ t ∈ x.tags, f t = g t) : x.ev f = x.ev g := by
  induction x with
  | tag t => exact h t (by simp [Ex.tags])
  | not x ih => rw [Ex.ev, Ex.ev, ih h]
  | and a b iha ihb => rw [Ex.ev, Ex.ev, iha fun t ht => h t (by simp [Ex.tags, ht]), ihb fun t ht => h t (by simp [Ex.tags, ht])]
  | or a b iha ihb => rw [Ex.ev, Ex.ev, iha fun t ht => h t (by simp [Ex.tags, ht]), ihb fun t ht => h t (by simp [Ex.tags, ht])]
/-! ### the texts of the laws of truth -/
theorem end0 {s : List UInt8} {x : Ex} (h : Par (.at 0) s (some x) []) : Whole s x := ⟨[], .first (.first h (.stop (s1 := []) rfl)) (.stop (s1 := []) rfl), rfl⟩
theorem end1 {s : List UInt8} {x : Ex} (h : Par (.at 1) s (some x) []) : Whole s x := ⟨[], .first h (.stop (s1 := []) rfl), rfl⟩
theorem and2 {s u v : List UInt8} {x y : Ex} (h1 : Par (.at 0) s (some x) u) (hs : signP [38, 38] u = (true, v)) {r : List UInt8} (h2 : Par (.at 0) v (some y) r) {r' : List UInt8} (hr : signP [38, 38] r = (false, r')) : Par (.at 1) s (some (.and x y)) r' :=
  .first h1 (.more hs h2 (.stop hr))
theorem or2 {s u v : List UInt8} {x y : Ex} (h1 : Par (.at 1) s (some x) u) (hs : signP [124, 124] u = (true, v)) {r : List UInt8} (h2 : Par (.at 1) v (some y) r) {r' : List UInt8} (hr : signP [124, 124] r = (false, r')) : Par (.at 2) s (some (.or x y)) r' :=
  .first h1 (.more hs h2 (.stop hr))
theorem up1 {s u : List UInt8} {x : Ex} (h : Par (.at 0) s (some x) u) {v : List UInt8} (hs : signP [38, 38] u = (false, v)) : Par (.at 1) s (some x) v := .first h (.stop hs)
section
variable {a b c : List UInt8} {x y z : Ex} (ha : Whole a x) (hb : Whole b y) (hc : Whole c z)
include ha in
theorem truth1 : Whole (33 :: 33 :: inP a []) (.not (.not x)) := end0 (.bang (s1 := 33 :: inP a []) rfl (.bang (s1 := inP a []) rfl (unit ha [])))
include ha hb in
theorem truth2 : Whole (inP a (38 :: 38 :: inP b [])) (.and x y) := end1 (and2 (unit ha _) rfl (unit hb []) rfl)
include ha hb in
theorem truth3 : Whole (inP b (32 :: 38 :: 38 :: 32 :: inP a [])) (.and y x) := end1 (and2 (v := 32 :: inP a []) (unit hb _) rfl (by
  have h := unit ha []
  obtain ⟨r, h1, h2⟩ := ha
  refine .paren (s1 := inP a []) (s2 := a ++ 41 :: []) (s3 := r ++ 41 :: []) rfl rfl (h1.app rfl rfl) ?_
  unfold signP
  rw [skip_blank h2 _ (by intro c hc; cases hc; decide)]
  rfl) rfl)
include ha hb in
theorem truth4 : Whole (33 :: inP (33 :: inP a (124 :: 124 :: 33 :: inP b [])) []) (.not (.or (.not x) (.not y))) :=
  end0 (.bang (s1 := inP (33 :: inP a (124 :: 124 :: 33 :: inP b [])) []) rfl (unit ⟨[], or2 (up1 (.bang (s1 := inP a (124 :: 124 :: 33 :: inP b [])) rfl (unit ha _)) rfl) rfl (up1 (.bang (s1 := inP b []) rfl (unit hb [])) rfl) rfl, rfl⟩ []))
include ha hb in
theorem truth5 : Whole (inP a (124 :: 124 :: inP b [])) (.or x y) := ⟨[], or2 (up1 (unit ha _) rfl) rfl (up1 (unit hb []) rfl) rfl, rfl⟩
include ha hb hc in
theorem truth6 : Whole (inP a (38 :: 38 :: inP (inP b (124 :: 124 :: inP c [])) [])) (.and x (.or y z)) := end1 (and2 (unit ha _) rfl (unit (truth5 hb hc) []) rfl)
include ha hb hc in
theorem truth7 : Whole (inP a (38 :: 38 :: inP b (124 :: 124 :: inP a (38 :: 38 :: inP c [])))) (.or (.and x y) (.and x z)) :=
  ⟨[], or2 (and2 (unit ha _) rfl (unit hb _) rfl) rfl (and2 (unit ha _) rfl (unit hc []) rfl) rfl, rfl⟩
include ha hb hc in
theorem truth8 : Whole (inP a (124 :: 124 :: inP b (38 :: 38 :: inP c []))) (.or x (.and y z)) :=
  ⟨[], or2 (up1 (unit ha _) rfl) rfl (and2 (unit hb _) rfl (unit hc []) rfl) rfl, rfl⟩
end
end Go.Proofs.YtniphdhbgebedaaGreatDoor
