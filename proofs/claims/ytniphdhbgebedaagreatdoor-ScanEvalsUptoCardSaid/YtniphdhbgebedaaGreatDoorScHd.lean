/-
  What is done with a token: every closure of the reader, and its steps.
-/
import Derived.Test.YtniphdhbgebedaaGreatDoorScB2
namespace Go.Proofs.YtniphdhbgebedaaGreatDoor
open Go.RowKit Go.Maps

set_option linter.unusedSimpArgs false

attribute [local go_sem] lt1 lt2 lt3 lt4 lt5 lt6 neq62 neq62n

theorem strs_snoc (l : List (List UInt8)) (s : List UInt8) : strs (l ++ [s]) = strs l ++ [.string (mkS s)] := by simp [strs]
theorem rd_path {w w' : World} {O P : Nat → Prop} {r : Nat} {d : Src} {sl sl' v' : Value} {m : Mk} {en : Ending} (s : List UInt8) (h : RdOwn w O P r d.imports sl)
    (hC : RdC w' r { d with imports := d.imports ++ [s] } sl' v' 0 0) (hrow : w'.ownsRow 0 9 1 sl' (d.imports.length + 1) (strs d.imports ++ [.string (mkS s)])) (hat : sl'.ownBlock = sl.ownBlock ∨ ∃ b, sl'.ownBlock = some b ∧ w.heap.size ≤ b)
    (hF : Fr (r :: sl.ownBlock.toList) w w') (hM : MkAt w' (fun k => w.heap.size ≤ k ∧ sl'.ownBlock ≠ some k) r m v') (he : ∃ u, en = .returned u) :
    RdPost w O r (match mkSt m with
      | none => .done { d with imports := d.imports ++ [s] }
      | some st => .go st { d with imports := d.imports ++ [s] }) en w' := by
  have hO : RdOwn w' (fun k => O k ∨ (w.heap.size ≤ k ∧ k < w'.heap.size)) (fun k => (w.heap.size ≤ k ∧ sl'.ownBlock ≠ some k) ∧ k < w'.heap.size) r (d.imports ++ [s]) sl' := by
    refine ⟨.inl h.own, ?_, ?_, ?_, ?_, ?_⟩
    · rintro k (hk | hk)
      · exact Nat.lt_of_lt_of_le (h.lt k hk) hF.size
      · exact hk.2
    · rw [strs_snoc, List.length_append]
      exact hrow
    · intro b hb
      obtain ⟨_, cur, hcur⟩ := own_blk hrow b hb
      have hlt := lt_of_heap hcur
      rcases hat with e | ⟨b', e, hb'⟩
      · obtain ⟨h1, h2, h3⟩ := h.blk b (by rw [← e]; exact hb)
        exact ⟨.inl h1, h2, fun hp => by have := h.lt b h1; omega⟩
      · rw [hb] at e
        cases e
        exact ⟨.inr ⟨hb', hlt⟩, by have := h.lt r h.own; omega, fun hp => hp.1.2 hb⟩
    · intro hp
      have := h.lt r h.own
      omega
    · exact fun k hk => .inr ⟨hk.1.1, hk.2⟩
  refine ⟨he, FrP.of_fr hF (fun k hk => ?_), fun k => O k ∨ (w.heap.size ≤ k ∧ k < w'.heap.size), ?_, ?_⟩
  · simp only [List.mem_cons, Option.mem_toList] at hk
    rcases hk with rfl | hk
    · exact h.own
    · exact (h.blk k hk).1
  · rintro k (hk | hk)
    · exact .inl hk
    · exact .inr hk.1
  · have hS := hM.stor.keep (w' := w') (P' := fun k => (w.heap.size ≤ k ∧ sl'.ownBlock ≠ some k) ∧ k < w'.heap.size) (fun _ _ _ => rfl) fun k hk hp => ⟨hp, hk⟩
    cases hm : mkSt m with
    | none => rw [hm] at hS; exact ⟨_, sl', v', hO, hC, hS⟩
    | some st => rw [hm] at hS; exact ⟨_, sl', v', hO, hC, hS⟩
section
variable {w : World} {O P : Nat → Prop} {r : Nat} {d : Src} {sl vs : Value} {st : St} (t : Tok)
theorem hd_b11 (hO : RdOwn w O P r d.imports sl) (hC : RdC w r d sl vs 0 0) {p : Nat} (hp : Box w P p r) : HdRun w O r (.func (.func 60) #[] #[rP p]) t (.go .ended { d with pkg := t.text }) := by
  refine ⟨_, _, rfl, call_ok _ _ Tryz.func60 (by kernel_rfl) (by kernel_rfl), (b11_any w r p _ _ _ _ _ _ _ _ _ hC hp.2 fun e => hO.pr (e ▸ hp.1)).mono ?_⟩
  rintro en w' ⟨hu, v', hR, hF, hM⟩
  exact rd_end (P' := fun k => w.heap.size ≤ k) (so := some .ended) (d' := { d with pkg := t.text }) hO rfl hF.out (fun k hk => .inr hk) hR.out hM.out.stor (fun _ => rfl) hu
theorem hd_b1 (hO : RdOwn w O P r d.imports sl) (hC : RdC w r d sl vs 0 0) {p : Nat} (hp : Box w P p r) : HdRun w O r (.func (.func 58) #[] #[rP p]) t (if t.text = [112, 97, 99, 107, 97, 103, 101] then .go .pkg d else .fault t.line 11 d) := by
  refine ⟨_, _, rfl, call_ok _ _ Tryz.func58 (by kernel_rfl) (by kernel_rfl), ?_⟩
  by_cases h : t.text = [112, 97, 99, 107, 97, 103, 101]
  · rw [if_pos h]
    refine (b1_yes w P r p _ _ _ _ _ _ _ _ _ hC hp.1 hp.2 (by rw [toList_toL, toL_mkS, h]; rfl) hO.pr).mono ?_
    rintro en w' ⟨hu, v', hR, hF, hM⟩
    exact rd_end (P' := fun k => P k ∨ w.heap.size ≤ k) (so := some .pkg) (d' := d) hO rfl hF.out (fun k hk => hk) hR.out hM.out (fun _ => rfl) hu
  · rw [if_neg h]
    refine (b1_no w r p _ _ _ _ _ _ _ _ _ hC hp.2 (by rw [toList_toL, toL_mkS]; exact beq_list h)).mono ?_
    rintro en w' ⟨hu, hR, hF⟩
    exact rd_end (P' := fun k => w.heap.size ≤ k) (so := none) (d' := d) (v' := .nilFunc) hO rfl hF.out (fun k hk => .inr hk) hR.out rfl (fun _ => rfl) hu
theorem hd_b2 (hO : RdOwn w O P r d.imports sl) (hC : RdC w r d sl vs 0 0) (hS : StepAt w P r st vs) {p : Nat} (hp : Box w P p r) : HdRun w O r (.func (.func 62) #[] #[rP p]) t
    (if d.rule ≠ [] then .fault t.line 12 d else if ruleErr t.text ≠ 0 then .fault t.line (ruleErr t.text) d else .go st { d with rule := t.text }) := by
  refine ⟨_, _, rfl, call_ok _ _ Tryz.func62 (by kernel_rfl) (by kernel_rfl), (b2_any w r p _ t.text d.rule _ _ _ _ _ _ hC hp.2).mono ?_⟩
  rintro en w' ⟨hu, hF, hR⟩
  have hR := hR.out
  unfold B2Res at hR
  by_cases h1 : d.rule ≠ []
  · rw [if_pos h1] at hR ⊢
    exact rd_end (P' := fun k => w.heap.size ≤ k) (so := none) (d' := d) (v' := .nilFunc) hO rfl hF.out (fun k hk => .inr hk) hR rfl (fun _ => rfl) hu
  · rw [if_neg h1] at hR ⊢
    by_cases h2 : ruleErr t.text ≠ 0
    · rw [if_pos h2] at hR ⊢
      exact rd_end (P' := fun k => w.heap.size ≤ k) (so := none) (d' := d) (v' := .nilFunc) hO rfl hF.out (fun k hk => .inr hk) hR rfl (fun _ => rfl) hu
    · rw [if_neg h2] at hR ⊢
      exact rd_end (P' := P) (so := some st) (d' := { d with rule := t.text }) hO rfl hF.out (fun k hk => .inl hk) hR (StepAt.keep hS (KeepP.of_fr hF.out fun k hk => by simp; rintro rfl; exact hO.pr hk) fun _ _ h => h) (fun _ => rfl) hu
theorem hd_path (hO : RdOwn w O P r d.imports sl) (hC : RdC w r d sl vs 0 0) (hg : Glob w) (hn : d.imports.length ≤ 1048576) {p q : Nat} {m : Mk} (hp : Box w P p r) (hq : FBox w P q m) : HdRun w O r (.func (.func 169) #[] #[rP p, rP q]) t
    (if importOk t.text = true then (match mkSt m with
      | none => .done { d with imports := d.imports ++ [t.text] }
      | some s => .go s { d with imports := d.imports ++ [t.text] }) else .fault t.line 9 d) := by
  refine ⟨_, _, rfl, call_ok _ _ Tryz.func169 (by kernel_rfl) (by kernel_rfl), ?_⟩
  have hne : ∀ k, P k → sl.ownBlock ≠ some k := fun k hk e => (hO.blk k e).2.2 hk
  by_cases h : importOk t.text = true
  · rw [if_pos h]
    refine (path_yes w r p q m _ _ _ _ _ _ _ _ _ _ _ hg hC hp.2 hq.2 (fun e => hO.pr (e ▸ hp.1)) (fun e => hO.pr (e ▸ hq.1)) hO.row (fun e => (hO.blk r e).2.1 rfl) (hne p hp.1) (hne q hq.1) hn (by rw [toL_mkS]; exact h)).mono ?_
    rintro en w' ⟨hu, sl', v', hR, hW, hA, hF, hM⟩
    exact rd_path t.text hO hR.out hW.out hA.out hF.out hM.out hu
  · rw [if_neg h]
    refine (path_no w r p q _ _ _ _ _ _ _ _ _ hg hC hp.2 (by rw [toL_mkS]; exact Bool.eq_false_iff.2 h)).mono ?_
    rintro en w' ⟨hu, hR, hF⟩
    exact rd_end (P' := fun k => w.heap.size ≤ k) (so := none) (d' := d) (v' := .nilFunc) hO rfl hF.out (fun k hk => .inr hk) hR.out rfl (fun _ => rfl) hu
theorem hd_called (hO : RdOwn w O P r d.imports sl) (hC : RdC w r d sl vs 0 0) {m : Mk} (hm : tblS (calS m) = [(115, .path m)] ∧ calS m ≠ .between) {p c : Nat} {pv : Value} (hp : Box w P p r) (hPc : P c) (hc : w.heap[c]? = some (.cells #[pv] 62 (0, 0))) (hpv : PathAt w P r pv m) :
    HdRun w O r (.func (.func 171) #[] #[rP p, rP c]) t (.go (calS m) d) := by
  refine ⟨_, _, rfl, call_ok _ _ Tryz.func171 (by kernel_rfl) (by kernel_rfl), (called_any w P r p c m pv (tokA t) ⟨_, rfl⟩ _ _ _ _ _ _ hC hp.2 (fun e => hO.pr (e ▸ hp.1)) (fun e => hO.pr (e ▸ hPc)) hO.pr hc hpv).mono ?_⟩
  rintro en w' ⟨hu, v', hR, hF, hM⟩
  refine rd_end (P' := fun k => P k ∨ w.heap.size ≤ k) (so := some (calS m)) (d' := d) hO rfl hF.out (fun k hk => hk) hR.out ?_ (fun _ => rfl) hu
  show StepAt _ _ _ _ _
  unfold StepAt
  rw [if_neg hm.2, hm.1]
  exact hM.out
theorem hd_run (hO : RdOwn w O P r d.imports sl) (hC : RdC w r d sl vs 0 0) (hS : StepAt w P r st vs) (hg : Glob w) (hn : d.imports.length ≤ 1048576) {h : Hd} {v : Value} (hh : HdAt w P r v h) (hcal : ∀ m, h = .called m → tblS (calS m) = [(115, .path m)] ∧ calS m ≠ .between) :
    HdRun w O r v t (doH importOk ruleErr st d t h) := by
  cases h with
  | stay => rw [show v = _ from hh]; exact hd_stay t hO hC hS
  | to m =>
    obtain ⟨p, q, rfl, h1, h2⟩ := hh
    have := hd_to t hO hC h1 h2
    cases m <;> exact this
  | b1 => obtain ⟨p, rfl, h1⟩ := hh; exact hd_b1 t hO hC h1
  | b2 => obtain ⟨p, rfl, h1⟩ := hh; exact hd_b2 t hO hC hS h1
  | b11 => obtain ⟨p, rfl, h1⟩ := hh; exact hd_b11 t hO hC h1
  | path m =>
    obtain ⟨p, q, rfl, h1, h2⟩ := hh
    have := hd_path t hO hC hg hn h1 h2
    cases m <;> exact this
  | called m =>
    obtain ⟨p, c, v', rfl, h1, h2, h3, h4⟩ := hh
    exact hd_called t hO hC (hcal m rfl) h1 h2 h3 h4
end
end Go.Proofs.YtniphdhbgebedaaGreatDoor
