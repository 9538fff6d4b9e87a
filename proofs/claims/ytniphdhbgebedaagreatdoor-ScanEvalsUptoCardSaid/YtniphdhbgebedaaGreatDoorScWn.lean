/-
  A step of the reader, whatever it is.
-/
import Derived.Test.YtniphdhbgebedaaGreatDoorScHd
namespace Go.Proofs.YtniphdhbgebedaaGreatDoor
open Go.RowKit Go.Maps

set_option linter.unusedSimpArgs false

attribute [local go_sem] lt1 lt2 lt3 lt4 lt5 lt6 neq62 neq62n

theorem RdPost.pre {w x w' : World} {O : Nat → Prop} {r : Nat} {y : Res} {en : Ending} (h : RdPost x O r y en w') (hB : Below w.heap.size w x) : RdPost w O r y en w' := by
  obtain ⟨h1, h2, O', h3, h4⟩ := h
  refine ⟨h1, ⟨h2.os.trans hB.os, h2.tape.trans hB.tape, h2.output.trans hB.output, Nat.le_trans hB.size h2.size, fun k hk hn => (h2.block k (Nat.lt_of_lt_of_le hk hB.size) hn).trans (hB.block k hk)⟩, O', fun k hk => (h3 k hk).imp id fun h => Nat.le_trans hB.size h, h4⟩
theorem RdOwn.below {w x : World} {O P : Nat → Prop} {r : Nat} {im : List (List UInt8)} {sl : Value} (h : RdOwn w O P r im sl) (hB : Below w.heap.size w x) : RdOwn x O P r im sl :=
  ⟨h.own, fun k hk => Nat.lt_of_lt_of_le (h.lt k hk) hB.size, own_keep h.row fun g _ hg => (hB.block g (lt_of_heap hg)).trans hg, h.blk, h.pr, h.po⟩
theorem look_run {x : World} {P : Nat → Prop} {r g : Nat} {o : Obj} {m : List (UInt8 × Hd)} (hg : x.heap[g]? = some o) (hM : HMap x P r o m) (k : UInt8) :
    ∃ v, (Instr.lookup 90 (.map (some g)) (.int .u8 (k.toNat : Int)) false).run Tryz.prog x = .ok v x ∧ ((look m k = none ∧ v = .nilFunc) ∨ ∃ h, look m k = some h ∧ HdAt x P r v h) := by
  obtain ⟨v, ok, hL, hrun⟩ := hM.lookup u8_law Tryz.underlying90 kE_inj (z := .nilFunc) (fun w => by kernel_rfl) (u8_key k)
  refine ⟨v, hrun x g false hg, ?_⟩
  rcases hL with ⟨h1, h2, _⟩ | ⟨y, h1, h2, _⟩
  · exact .inl ⟨h1, h2⟩
  · exact .inr ⟨y, h1, h2⟩
theorem tbl_called (st : St) (k : UInt8) (m : Mk) (h : look (tblS st) k = some (.called m)) : tblS (calS m) = [(115, .path m)] ∧ calS m ≠ .between := by
  have : m = .ended ∨ m = .behind := by
    cases st <;> simp only [tblS, look] at h <;> (repeat' split at h) <;> first | (cases h; done) | (cases h; exact .inl rfl) | (cases h; exact .inr rfl)
  rcases this with rfl | rfl
  · exact ⟨rfl, by decide⟩
  · exact ⟨rfl, by decide⟩
set_option maxRecDepth 100000 in
set_option maxHeartbeats 16000000 in
theorem want1_any {w : World} {O P : Nat → Prop} {r : Nat} {d : Src} {sl vs : Value} {st : St} (t : Tok) (hne : st ≠ .between) (hO : RdOwn w O P r d.imports sl) (hC : RdC w r d sl vs 0 0) (hS : StepAt w P r st vs) (hg : Glob w) (hn : d.imports.length ≤ 1048576) :
    HdRun w O r vs t (stepR importOk ruleErr st d t) := by
  have hW := hS
  unfold StepAt at hW
  rw [if_neg hne] at hW
  obtain ⟨pm, pr, g, o, rfl, hbox, hPm, hpm, hPg, hgo, hM⟩ := hW
  refine ⟨_, _, rfl, call_ok _ _ Tryz.func83 (by kernel_rfl) (by kernel_rfl), ?_⟩
  rw [stepR_look _ _ _ hne]
  obtain ⟨x0, hx0⟩ : ∃ x, x = w.alloc (.cells #[.int .u8 (t.kind.toNat : Int), .string (mkS t.text), .int .i64 (t.line : Nat)] 70) := ⟨_, rfl⟩
  have hB : Below w.heap.size w x0 := by rw [hx0]; exact (Below.refl _ w).alloc (Nat.le_refl _) _
  have hO0 := hO.below hB
  have hC0 : RdC x0 r d sl _ 0 0 := (hB.block r (hO.lt r hO.own)).trans hC
  have hS0 := StepAt.keep hS (P' := P) (KeepP.of_below hB) fun _ _ h => h
  have hg0 := hg.below hB hg.pos
  have hl := lt_of_heap hC
  have hpmw : w.cell? ⟨pm, 0, none⟩ = some (.map (some g)) := (blk_cells hpm).1 0
  have hprw : w.cell? ⟨pr, 0, none⟩ = some (.pointer (some ⟨r, 0, none⟩)) := (blk_cells hbox.2).1 0
  have hlm := lt_of_heap hpm
  have hlr := lt_of_heap hbox.2
  obtain ⟨v, hrun, hlk⟩ := look_run ((hB.block g (lt_of_heap hgo)).trans hgo) (hM.mono (R' := fun v h => HdAt x0 P r v h) fun v h hh => hh.keep (KeepP.of_below hB) fun _ _ h => h) t.kind
  rw [hx0] at hrun
  have HX0 := Lib.hid hx0
  have HB := Lib.hid hB
  have HC := Lib.hid hC
  unfold rP tokA
  rcases hlk with ⟨h1, rfl⟩ | ⟨h, h1, h2⟩
  · rw [h1]
    simp only
    clear hbox hpm hgo hM hB hO0 hC0 hS0 hS hC h1 hx0 hg hg0
    have HO := Lib.hid hO
    clear hO
    obtain ⟨RP, hRP⟩ : ∃ RP, RP = RdPost w O r (.fault t.line 11 d) := ⟨_, rfl⟩
    rw [← hRP]
    have HRP := Lib.hid hRP
    clear hRP
    go_enter Tryz.func83, Tryz.ntmps83
    go_wp2_with fail
    refine (fault_call ((Below.refl _ w).alloc (Nat.le_refl _) _) HC.out _ _ _ 11).mono ?_
    rintro en w' ⟨⟨u, rfl⟩, hR, hF⟩
    go_wp2_with fail
    first | go_end0 | refine bodyPost_ret (results_none rfl _ _ _) rfl ?_
    rw [HRP.out]
    exact rd_end (P' := fun k => w.heap.size ≤ k) (so := none) (d' := d) (v' := .nilFunc) HO.out rfl hF.out (fun k hk => .inr hk) hR.out rfl (fun _ => rfl) ⟨_, rfl⟩
  · rw [h1]
    simp only
    obtain ⟨f, cap, rfl, henter, hcall⟩ := hd_run t hO0 hC0 hS0 hg0 hn h2 fun m hm => tbl_called st t.kind m (hm ▸ h1)
    have HCall := Lib.hid (hcall.mono fun en w' h => h.pre HB.out)
    obtain ⟨RP, hRP⟩ : ∃ RP, RP = RdPost w O r (doH importOk ruleErr st d t h) := ⟨_, rfl⟩
    rw [← hRP] at HCall ⊢
    have HRP := Lib.hid hRP
    clear hbox hpm hgo hM hB hO0 hC0 hS0 hS hC h1 h2 hx0 hg hg0 hcall hO hRP
    unfold tokA at HCall
    go_enter Tryz.func83, Tryz.ntmps83
    go_wp2_with fail
    rw [← HX0.out]
    refine HCall.out.mono ?_
    intro en w' hP
    obtain ⟨u, rfl⟩ : ∃ u, en = .returned u := by rw [HRP.out] at hP; exact hP.1
    have HP : Hid (∀ u', RP (.returned u') w') := Lib.hid fun u' => by
      rw [HRP.out] at hP ⊢
      exact ⟨⟨_, rfl⟩, hP.2⟩
    clear hP
    go_wp2_with fail
    first | go_end0 | refine bodyPost_ret (results_none rfl _ _ _) rfl ?_
    exact HP.out _
/-- a step of the reader -/
theorem step_any {w : World} {O P : Nat → Prop} {r : Nat} {d : Src} {sl vs : Value} {st : St} (t : Tok) (hO : RdOwn w O P r d.imports sl) (hC : RdC w r d sl vs 0 0) (hS : StepAt w P r st vs) (hg : Glob w) (hn : d.imports.length ≤ 1048576) :
    HdRun w O r vs t (stepR importOk ruleErr st d t) := by
  by_cases hne : st = .between
  · subst hne
    have hW := hS
    unfold StepAt at hW
    rw [if_pos rfl] at hW
    obtain ⟨p, rfl, hb⟩ := hW
    refine ⟨_, _, rfl, call_ok _ _ Tryz.func126 (by kernel_rfl) (by kernel_rfl), ?_⟩
    have hlist : ∀ L : List UInt8, (((mkS t.text).toList == L) = true ↔ t.text = L) := fun L => by rw [toList_toL, toL_mkS, beq_iff_eq]
    have hk : ∀ j : UInt8, (t.kind = j ↔ (t.kind.toNat : Int) = (j.toNat : Int)) := fun j => ⟨fun h => by rw [h], fun h => UInt8.toNat_inj.1 (by omega)⟩
    simp only [stepR]
    by_cases h1 : t.kind = 59 ∨ t.kind = 99
    · rw [if_pos h1]
      refine (bt_stay w r p _ _ _ hb.2 (h1.imp (fun h => (hk 59).1 h) fun h => (hk 99).1 h)).mono ?_
      rintro en w' ⟨hu, hB⟩
      exact rd_end (P' := P) (so := some .between) hO rfl (Fr.of_below hB _) (fun k hk => .inl hk) ((hB.block r (lt_of_heap hC)).trans hC) (StepAt.keep hS (KeepP.of_below hB) fun _ _ h => h) (fun _ => rfl) hu
    · rw [if_neg h1]
      by_cases h2 : t.kind = 110 ∧ t.text = [105, 109, 112, 111, 114, 116]
      · rw [if_pos h2]
        have e := (hk 110).1 h2.1
        unfold tokA
        rw [e]
        refine (bt_imp w r p _ _ _ _ _ _ _ _ hC hb.2 ((hlist _).2 h2.2)).mono ?_
        rintro en w' ⟨hu, v', hR, hF, hM⟩
        exact rd_end (P' := fun k => w.heap.size ≤ k) (so := some .imports) (d' := d) hO rfl hF.out (fun k hk => .inr hk) hR.out hM.out.stor (fun _ => rfl) hu
      · rw [if_neg h2]
        by_cases h3 : t.kind = 33 ∧ t.text = openW
        · rw [if_pos h3]
          have e := (hk 33).1 h3.1
          unfold tokA
          rw [e]
          refine (bt_bad w r p _ _ _ _ _ _ _ _ hC hb.2 ((hlist _).2 h3.2)).mono ?_
          rintro en w' ⟨hu, hR, hF⟩
          exact rd_end (P' := fun k => w.heap.size ≤ k) (so := none) (d' := d) (v' := .nilFunc) hO rfl hF.out (fun k hk => .inr hk) hR.out rfl (fun _ => rfl) hu
        · rw [if_neg h3]
          have nk : ∀ j : UInt8, t.kind ≠ j → ((t.kind.toNat : Int) == (j.toNat : Int)) = false := fun j h => beq_eq_false_iff_ne.2 fun e => h ((hk j).2 e)
          refine (bt_nil w r p _ _ _ _ _ _ _ _ _ hC hb.2 (nk 59 fun e => h1 (.inl e)) (nk 99 fun e => h1 (.inr e)) ?_ ?_).mono ?_
          · by_cases h4 : t.kind = 110
            · exact .inr ⟨by rw [beq_iff_eq]; exact (hk 110).1 h4, Bool.eq_false_iff.2 fun e => h2 ⟨h4, (hlist _).1 e⟩⟩
            · exact .inl (nk 110 h4)
          · by_cases h4 : t.kind = 33
            · exact .inr ⟨by rw [beq_iff_eq]; exact (hk 33).1 h4, Bool.eq_false_iff.2 fun e => h3 ⟨h4, (hlist _).1 e⟩⟩
            · exact .inl (nk 33 h4)
          · rintro en w' ⟨hu, hR, hF⟩
            exact rd_end (P' := fun k => w.heap.size ≤ k) (so := none) (d' := d) (v' := .nilFunc) hO rfl hF.out (fun k hk => .inr hk) hR.out rfl (fun _ => rfl) hu
  · exact want1_any t hne hO hC hS hg hn
end Go.Proofs.YtniphdhbgebedaaGreatDoor
