/-
  For every input: mews/mewslaw6.ArkPacks returns true, and each argument reads behind the call as it read before; the tied card.
-/
import Derived.Test.YtdmladdpbdcpjaaDoorArkPl
import Derived.Test.YtdmladdpbdcpjaaDoorArkOpens
import Derived.Test.YtdmladdpbdcpjaaDoorTie
import Derived.Test.YtdmladdpbdcpjaaDoorCards
import Derived.ProofKit
import Derived.OpenShut
import Derived.Lib.SmallJoins
import Derived.LaidMore
import Derived.Lay
import Derived.SevenTiedAt
import Derived.Shelf.Vars
namespace Go.Proofs.YtdmladdpbdcpjaaDoor.arkPacks
open Go.ChangeShapes Go.WideShapes Go.ChangeAt Go.RowKit Go.Proofs.YtdmladdpbdcpjaaDoor
set_option linter.unusedVariables false

theorem own : ownKnob Tryd.prog.godebug = none := by kernel_rfl
theorem laidOut : laidOutB Tryd.prog = true := by kernel_rfl
theorem recFiles : Tryd.prog.readableRec 22 = true := by kernel_rfl
theorem recMod : Tryd.prog.readableRec 24 = true := by kernel_rfl
theorem rowMod : 24 < Tryd.prog.types.size := of_decide_eq_true (by kernel_rfl)
theorem cellsMod : Tryd.prog.cellsOf 24 = 2 := by kernel_rfl
theorem rowFiles : 22 < Tryd.prog.types.size := of_decide_eq_true (by kernel_rfl)
theorem maxL_of {W : World} (h : W.ShapedOpen Tryd.prog) : MaxL W :=
  cell_of_shapedOpen_int (P := Tryd.prog) (g := 0) (t := 3) (zero := #[.int .i64 0]) h (of_decide_eq_true (by kernel_rfl)) (by kernel_rfl) rfl (by kernel_rfl) (by kernel_rfl) Tryd.underlying3
set_option maxRecDepth 100000 in
theorem lifted (os : Os) (started : os.Started) (H : Type) (enc : TypeId × Value → H) :
    ReturnsInHanded {} Tryd.checked os 3 .any (fun w args => (Rows.arkPacksSpec.pre enc Tryd.prog Tryd.f3 Rows.arkPacksRow.domain false w args ∧ laidMetH Tryd.prog Rows.arkPacksRow.laid w) ∧ sizedMet enc Tryd.prog Tryd.f3 (OpenSpec.ofChange Rows.arkPacksSpec) false w args)
      (Rows.arkPacksSpec.post enc Tryd.prog Tryd.f3 false true false false) := by
  refine returns_laid_shaped (C := Tryd.checked) (X := fun w _ => laidMetH Tryd.prog Rows.arkPacksRow.laid w) own started (by kernel_rfl) Tryd.func3
    (ChangeSpec.witness_shaped (enc := enc) (C := Tryd.checked) (os := os) (X := fun w _ => laidMetH Tryd.prog Rows.arkPacksRow.laid w) false (World.laidAll Tryd.prog os Rows.arkPacksRow.laid) #[.slice none 0 0, .agg #[.string ⟨#[]⟩, .string ⟨#[]⟩], .string ⟨#[]⟩] 8 (World.laidAll_os _ _ _)
      (World.shaped_of_ZipB (by kernel_rfl) (by kernel_rfl)) (by kernel_rfl) (by kernel_rfl) (by kernel_rfl)
      (by rw [MakeChecks.laidMetH_plain _ _ _ (by kernel_rfl)]; exact laidMet_laidAll _ (by kernel_rfl) (by kernel_rfl))) ?_
  intro W base args ds gs before hval0 hW hsh
  have hval : ∀ (j : Nat) t v, Tryd.f3.params[j]? = some t → args[j]? = some v → Value.okWide Tryd.prog W .any base t v := hval0
  have hW' := hW
  obtain ⟨p, q, hA0, hV, rfl, hfz, hnd⟩ := hW
  have hA : DataW.TrodAll enc Tryd.prog W 0 (fun _ => true) true Tryd.f3.params.toList args.toList ds p := hA0
  rw [Tryd.params3] at hA hval
  obtain ⟨v0, vs0, d0, ds0, p0, q0, hargs, rfl, rfl, h0, r0⟩ := trodAll_cons hA
  obtain ⟨v1, vs1, d1, ds1, p1, q1, rfl, rfl, rfl, h1, r1⟩ := trodAll_cons r0
  obtain ⟨v2, vs2, d2, ds2, p2, q2, rfl, rfl, rfl, h2, r2⟩ := trodAll_cons r1
  obtain ⟨rfl, rfl, rfl⟩ := trodAll_nil r2
  obtain rfl : args = #[v0, v1, v2] := by cases args; simp_all
  obtain ⟨rfl, rfl⟩ := trodVars_none hV
  obtain ⟨u, rfl, rfl, rfl, hus⟩ := Go.ChangeMaps.open_string Tryd.underlying9 (hval 2 9 v2 rfl rfl) h2
  have hh1 := h1
  obtain ⟨u0, u1, y0, y1, m2, rfl, rfl, rfl, t20, t21⟩ := Joins.open_agg2 Tryd.underlying24 (by kernel_rfl) cellsMod (hval 1 24 v1 rfl rfl) h1
  obtain ⟨s0, e0, _⟩ := DataW.trod_string Tryd.underlying9 t20
  obtain ⟨s1, e1, _⟩ := DataW.trod_string Tryd.underlying9 t21
  simp only [List.cons.injEq, and_true] at e0 e1
  subst e0 e1
  obtain ⟨a0, l0, c0, rfl⟩ := okWide_slice Tryd.underlying22 (hval 0 22 v0 rfl rfl)
  have hh0 := h0
  have hlt := fun x hx => hW'.lt x hx
  obtain ⟨n0, t0⟩ := h0
  obtain ⟨A, d, cap, hv0, hbs, hss⟩ := files_of (v := .slice a0 l0 c0) (by simpa [Value.cells] using t0)
  simp only [Value.slice.injEq] at hv0
  obtain ⟨rfl, rfl, rfl⟩ := hv0
  refine (packs_any W _ _ d s0 s1 u (maxL_of hsh) hbs hss).mono fun e W' ⟨he, hb⟩ => ?_
  subst he
  refine ⟨_, rfl, post_below (pa := p0 ++ ((y0.2 ++ y1.2) ++ ([] ++ []))) (pv := []) hW' (fun _ _ _ => (trodAll_cons_mk (shut_bool Tryd.underlying4 _) trodAll_mk0)) (fun sp hsp => ?_) (fun _ _ => rfl) rfl hb (ok_one (by kernel_rfl) rfl (okWide_bool_mk Tryd.underlying4 _))⟩
  exact trodAll_cons_mk (WideElems.Trod_stays laidOut recFiles rowFiles hh0 (fun x hx => hb.same (hlt x (by simp [hx]))) (fun x hx => hsp x (by simp [hx])))
    (trodAll_cons_mk (WideElems.Trod_stays laidOut recMod rowMod hh1 (fun x hx => hb.same (hlt x (by simp only [List.mem_append] at hx ⊢; rcases hx with hx | hx <;> simp [hx]))) (fun x hx => hsp x (by simp only [List.mem_append] at hx ⊢; rcases hx with hx | hx <;> simp [hx])))
      (trodAll_cons_mk (Go.ChangeMaps.shut_string Tryd.underlying9 hus) trodAll_mk0))

theorem holds : Rows.ArkPacksSaid :=
  OpenClaim.holds_of_wide 3 Tryd.f3 rfl rfl rfl rfl rfl rfl rfl ⟨rfl, rfl, rfl, rfl, rfl⟩ rfl rfl rfl rfl rfl (by kernel_rfl) Tryd.func3 (by kernel_rfl)
    (of_decide_eq_true (by kernel_rfl)) (by unfold Func.isWrapper; first | (rw [if_pos (by decide +kernel)]; kernel_rfl) | (rw [if_neg (by decide +kernel)]; exact ⟨rfl, rfl⟩))
    (fun os started H enc _ => lifted os started H enc)
theorem proved : Rows.ArkPacksCardSaid :=
  Claim7.holds_tied_plain_at .later [] [.data, .pinned] true (true, "86532ea38b95ac30a1e28f8295c79ca27108696f7abe02b9855a1301337bf0a4") false holds (fun _ h => by cases h) (by kernel_rfl) (fun _ h => by cases h) arkPacks_row_tie rfl ⟨rfl, rfl⟩ (by kernel_rfl) rfl
    (fun f fn hf hfn => by
      obtain rfl : f = 3 := Option.some.inj ((show Tryd.prog.funcNamed "mews/mewslaw6.ArkPacks" = some 3 by kernel_rfl).symm.trans hf) |>.symm
      obtain rfl : fn = Tryd.f3 := (Option.some.inj (Tryd.func3.symm.trans hfn)).symm
      exact ⟨by kernel_rfl, fun j t ht => by
        rw [Tryd.params3] at ht
        have hm : t ∈ [22, 24, 9] := by simpa using Array.mem_of_getElem? ht
        have hall : ([22, 24, 9].all fun u => !Tryd.prog.wantsStandIn u) = true := by kernel_rfl
        exact (show Tryd.prog.wantsStandIn t = false by simpa using List.all_eq_true.1 hall t hm)⟩)
    (by kernel_rfl)
#print axioms proved
end Go.Proofs.YtdmladdpbdcpjaaDoor.arkPacks
