/-
  For every input: mews/mewslaw6.ArkTells returns true, and each argument reads behind the call as it read before; the tied card.
-/
import Derived.Test.YtfbdjfljgcfikaaDoorArkTl1
import Derived.Test.YtfbdjfljgcfikaaDoorArkOpens
import Derived.Test.YtfbdjfljgcfikaaDoorTie
import Derived.Test.YtfbdjfljgcfikaaDoorCards
import Derived.ProofKit
import Derived.OpenShut
import Derived.Lib.SmallJoins
import Derived.LaidMore
import Derived.Lay
import Derived.SevenTiedAt
import Derived.Shelf.Vars
namespace Go.Proofs.YtfbdjfljgcfikaaDoor.arkTells
open Go.ChangeShapes Go.WideShapes Go.ChangeAt Go.RowKit Go.Proofs.YtfbdjfljgcfikaaDoor
set_option linter.unusedVariables false

theorem own : ownKnob Tryd.prog.godebug = none := by kernel_rfl
theorem laidOut : laidOutB Tryd.prog = true := by kernel_rfl
theorem recFiles : Tryd.prog.readableRec 22 = true := by kernel_rfl
theorem recMod : Tryd.prog.readableRec 24 = true := by kernel_rfl
theorem rowMod : 24 < Tryd.prog.types.size := of_decide_eq_true (by kernel_rfl)
theorem cellsMod : Tryd.prog.cellsOf 24 = 2 := by kernel_rfl
theorem rowFiles : 22 < Tryd.prog.types.size := of_decide_eq_true (by kernel_rfl)
theorem maxL_of {W : World} (h : W.ShapedOpen Tryd.prog) : MaxL W :=
  cell_of_shapedOpen_int (P := Tryd.prog) (g := 0) (t := 3) (zero := #[.int .i64 0]) h (of_decide_eq_true (by kernel_rfl)) (by kernel_rfl) rfl (by kernel_rfl) (by kernel_rfl) Tryd.underlying3
set_option maxRecDepth 100000 in
theorem lifted (os : Os) (started : os.Started) (H : Type) (enc : TypeId × Value → H) :
    ReturnsInHanded {} Tryd.checked os 4 .any (fun w args => (Rows.arkTellsSpec.pre enc Tryd.prog Tryd.f4 Rows.arkTellsRow.domain false w args ∧ laidMetH Tryd.prog Rows.arkTellsRow.laid w) ∧ sizedMet enc Tryd.prog Tryd.f4 (OpenSpec.ofChange Rows.arkTellsSpec) false w args)
      (Rows.arkTellsSpec.post enc Tryd.prog Tryd.f4 false true false false) := by
  refine returns_laid_shaped (C := Tryd.checked) (X := fun w _ => laidMetH Tryd.prog Rows.arkTellsRow.laid w) own started (by kernel_rfl) Tryd.func4
    (ChangeSpec.witness_shaped (enc := enc) (C := Tryd.checked) (os := os) (X := fun w _ => laidMetH Tryd.prog Rows.arkTellsRow.laid w) false (World.laidAll Tryd.prog os Rows.arkTellsRow.laid) #[.slice none 0 0, .slice none 0 0, .agg #[.string ⟨#[]⟩, .string ⟨#[]⟩]] 8 (World.laidAll_os _ _ _)
      (World.shaped_of_ZipB (by kernel_rfl) (by kernel_rfl)) (by kernel_rfl) (by kernel_rfl) (by kernel_rfl)
      (by rw [MakeChecks.laidMetH_plain _ _ _ (by kernel_rfl)]; exact laidMet_laidAll _ (by kernel_rfl) (by kernel_rfl))) ?_
  intro W base args ds gs before hval0 hW hsh
  have hval : ∀ (j : Nat) t v, Tryd.f4.params[j]? = some t → args[j]? = some v → Value.okWide Tryd.prog W .any base t v := hval0
  have hW' := hW
  obtain ⟨p, q, hA0, hV, rfl, hfz, hnd⟩ := hW
  have hA : DataW.TrodAll enc Tryd.prog W 0 (fun _ => true) true Tryd.f4.params.toList args.toList ds p := hA0
  rw [Tryd.params4] at hA hval
  obtain ⟨v0, vs0, d0, ds0, p0, q0, hargs, rfl, rfl, h0, r0⟩ := trodAll_cons hA
  obtain ⟨v1, vs1, d1, ds1, p1, q1, rfl, rfl, rfl, h1, r1⟩ := trodAll_cons r0
  obtain ⟨v2, vs2, d2, ds2, p2, q2, rfl, rfl, rfl, h2, r2⟩ := trodAll_cons r1
  obtain ⟨rfl, rfl, rfl⟩ := trodAll_nil r2
  obtain rfl : args = #[v0, v1, v2] := by cases args; simp_all
  obtain ⟨rfl, rfl⟩ := trodVars_none hV
  have hh2 := h2
  obtain ⟨u0, u1, y0, y1, m2, rfl, rfl, rfl, t20, t21⟩ := Joins.open_agg2 Tryd.underlying24 (by kernel_rfl) cellsMod (hval 2 24 v2 rfl rfl) h2
  obtain ⟨s0, e0, _⟩ := DataW.trod_string Tryd.underlying9 t20
  obtain ⟨s1, e1, _⟩ := DataW.trod_string Tryd.underlying9 t21
  simp only [List.cons.injEq, and_true] at e0 e1
  subst e0 e1
  obtain ⟨a0, l0, c0, rfl⟩ := okWide_slice Tryd.underlying22 (hval 0 22 v0 rfl rfl)
  obtain ⟨a1, l1, c1, rfl⟩ := okWide_slice Tryd.underlying22 (hval 1 22 v1 rfl rfl)
  have hh0 := h0
  have hh1 := h1
  have hlt := fun x hx => hW'.lt x hx
  obtain ⟨n0, t0⟩ := h0
  obtain ⟨n1, t1⟩ := h1
  obtain ⟨A, d, cap, hv0, hbs, hss⟩ := files_of (v := .slice a0 l0 c0) (by simpa [Value.cells] using t0)
  obtain ⟨K, k, kap, hv1, hks, hkk⟩ := files_of (v := .slice a1 l1 c1) (by simpa [Value.cells] using t1)
  simp only [Value.slice.injEq] at hv0 hv1
  obtain ⟨rfl, rfl, rfl⟩ := hv0
  obtain ⟨rfl, rfl, rfl⟩ := hv1
  refine (tells_any W _ _ _ _ d k s0 s1 (maxL_of hsh) hbs hks hss hkk).mono fun e W' ⟨he, hb⟩ => ?_
  subst he
  refine ⟨_, rfl, post_below (pa := p0 ++ (p1 ++ ((y0.2 ++ y1.2) ++ []))) (pv := []) hW' (fun _ _ _ => (trodAll_cons_mk (shut_bool Tryd.underlying4 _) trodAll_mk0)) (fun sp hsp => ?_) (fun _ _ => rfl) rfl hb (ok_one (by kernel_rfl) rfl (okWide_bool_mk Tryd.underlying4 _))⟩
  exact trodAll_cons_mk (WideElems.Trod_stays laidOut recFiles rowFiles hh0 (fun x hx => hb.same (hlt x (by simp [hx]))) (fun x hx => hsp x (by simp [hx])))
    (trodAll_cons_mk (WideElems.Trod_stays laidOut recFiles rowFiles hh1 (fun x hx => hb.same (hlt x (by simp [hx]))) (fun x hx => hsp x (by simp [hx])))
      (trodAll_cons_mk (WideElems.Trod_stays laidOut recMod rowMod hh2 (fun x hx => hb.same (hlt x (by simp only [List.mem_append] at hx ⊢; rcases hx with hx | hx <;> simp [hx]))) (fun x hx => hsp x (by simp only [List.mem_append] at hx ⊢; rcases hx with hx | hx <;> simp [hx]))) trodAll_mk0))

theorem holds : Rows.ArkTellsSaid :=
  OpenClaim.holds_of_wide 4 Tryd.f4 rfl rfl rfl rfl rfl rfl rfl ⟨rfl, rfl, rfl, rfl, rfl⟩ rfl rfl rfl rfl rfl (by kernel_rfl) Tryd.func4 (by kernel_rfl)
    (of_decide_eq_true (by kernel_rfl)) (by unfold Func.isWrapper; first | (rw [if_pos (by decide +kernel)]; kernel_rfl) | (rw [if_neg (by decide +kernel)]; exact ⟨rfl, rfl⟩))
    (fun os started H enc _ => lifted os started H enc)
theorem proved : Rows.ArkTellsCardSaid :=
  Claim7.holds_tied_plain_at .later [] [.data, .pinned] true (true, "9403e50ec9b46abbeead9f3e4433a72cef18ac20a9edb959a25832748c6b709c") false holds (fun _ h => by cases h) (by kernel_rfl) (fun _ h => by cases h) arkTells_row_tie rfl ⟨rfl, rfl⟩ (by kernel_rfl) rfl
    (fun f fn hf hfn => by
      obtain rfl : f = 4 := Option.some.inj ((show Tryd.prog.funcNamed "mews/mewslaw6.ArkTells" = some 4 by kernel_rfl).symm.trans hf) |>.symm
      obtain rfl : fn = Tryd.f4 := (Option.some.inj (Tryd.func4.symm.trans hfn)).symm
      exact ⟨by kernel_rfl, fun j t ht => by
        rw [Tryd.params4] at ht
        have hm : t ∈ [22, 22, 24] := by simpa using Array.mem_of_getElem? ht
        have hall : ([22, 22, 24].all fun u => !Tryd.prog.wantsStandIn u) = true := by kernel_rfl
        exact (show Tryd.prog.wantsStandIn t = false by simpa using List.all_eq_true.1 hall t hm)⟩)
    (by kernel_rfl)
#print axioms proved
end Go.Proofs.YtfbdjfljgcfikaaDoor.arkTells
