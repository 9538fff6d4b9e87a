/-
  For every input of bulk at most 1048576: mews/mewslaw2.NetAlone returns true, and each argument reads behind the call as it read before.
-/
import Derived.Test.YtpblaclhfcomeaaAlone
import Derived.Test.YtpblaclhfcomeaaOpen
import Derived.SliceStrings
import Derived.ProofKit
import Derived.OpenShut
import Derived.JoinedCond
import Derived.Carry
namespace Go.Proofs.Ytpblaclhfcomeaa.netAlone
open Go.ChangeShapes Go.WideShapes Go.ChangeAt Go.RowKit Go.Proofs.Ytpblaclhfcomeaa
set_option linter.unusedVariables false

theorem own : ownKnob Try.prog.godebug = none := by kernel_rfl

section
variable {H : Type} {enc : TypeId × Value → H} {P : Program}
/-- the last step of a row whose call leaves all that was there as it was -/
theorem post_below {f : Func} {s : ChangeSpec} {apart fresh handsOn again : Bool} {W W' : World} {args : Array Value} {v : Value} {ds gs : List (DataW H)} {before pa pv : List MemPlace}
    (hW : DataW.Whole enc P f.params.toList s.vars apart W args.toList ds gs before)
    (hres : ∀ (b : Nat) (sp : Nat → Bool) (hd : Bool), DataW.TrodAll enc P W' b sp hd f.resultTypes.toList (v.resultList f.resultTypes.size) (s.fn H (ds ++ gs)).results [])
    (hargs : ∀ sp : Nat → Bool, (∀ p ∈ before, sp p.block = true) → DataW.TrodAll enc P W' 0 sp true f.params.toList args.toList (s.fn H (ds ++ gs)).args pa)
    (hvars : ∀ sp : Nat → Bool, (∀ p ∈ before, sp p.block = true) → DataW.TrodVars enc P W' sp s.vars (s.fn H (ds ++ gs)).vars pv)
    (hps : before = pa ++ pv) (hb : Below W.heap.size W W')
    (hok : ∀ (j : Nat) (t : TypeId) (r : Value), f.resultTypes[j]? = some t → (v.resultList f.resultTypes.size)[j]? = some r → Value.okWide P W' .any 0 t r) :
    s.post enc P f apart fresh handsOn again W args v W' := by
  have hold : ∀ p ∈ before, (fun b => decide (b < W.heap.size)) p.block = true := fun p hp => by simpa using hW.lt p hp
  refine ⟨ds, gs, before, [], pa, pv, hW, hres _ _ _, hargs _ hold, hvars _ hold, World.keptBut_mono (fun p hp => ⟨hp, Or.inr (by rw [hps] at hp; simpa using hp)⟩) (hb.frame (· ∈ before)), fun _ => ?_⟩
  obtain ⟨_, _, _, _, _, hz, hn⟩ := id hW
  refine ⟨hok, _, _, ([] ++ pa) ++ pv, ⟨[] ++ pa, pv, trodAll_append (hargs _ (fun _ _ => rfl)) (hres _ _ _), hvars _ (fun _ _ => rfl), rfl, ?_, ?_⟩, ?_⟩
  · intro b off hp
    have hin : MemPlace.cell b off ∈ before := by rw [hps]; simpa using hp
    rw [hb.frozen (hW.lt _ hin)]
    exact hz b off hin
  · intro ha
    have := hn ha
    rw [hps] at this
    simpa using this
  · intro p hp _
    rw [hps]
    simpa using hp
end

theorem recPages : Try.prog.readableRec 22 = true := by kernel_rfl
theorem recFaults : Try.prog.readableRec 23 = true := by kernel_rfl
theorem rowPages : 22 < Try.prog.types.size := of_decide_eq_true (by kernel_rfl)
theorem rowFaults : 23 < Try.prog.types.size := of_decide_eq_true (by kernel_rfl)
theorem recStrs : Try.prog.readableRec 41 = true := by kernel_rfl
theorem rowStrs : 41 < Try.prog.types.size := of_decide_eq_true (by kernel_rfl)
section
open Go.Deep
variable {H : Type} {enc : TypeId × Value → H} {W : World} {base : Nat} {spare : Nat → Bool} {held : Bool}
theorem strs_of {n : Nat} {v : Value} {x : DataW H × List MemPlace} (h : DataW.trod enc Try.prog W base spare held n 41 [v] = some x) (hb : Rows.uptoBulk x.1 ≤ 1048576) :
    ∃ A l cap, v = .slice A (List.length l) cap ∧ StAt W A cap l := by
  rcases open_strings Try.underlying41 Try.underlying9 cellsStr h with ⟨hv, hy⟩ | ⟨a, len, cap, ss, hv, _, hl, hm, hz, hy, hcell, hwf⟩
  · simp only [List.cons.injEq, and_true] at hv
    exact ⟨none, [], 0, hv, ⟨⟨by simp, by simp, by simp, by simp, by simp⟩, by simp⟩⟩
  · simp only [List.cons.injEq, and_true] at hv
    have hzl : len ≤ ss.length := by rw [hz]; split <;> omega
    have hlen : (ss.take len).length = len := by simp; omega
    refine ⟨some a, ss.take len, cap, by rw [hlen]; exact hv, ⟨⟨by simp, by simp, by rw [hlen]; exact hl, hm, fun hp => ?_⟩, fun s hs => ?_⟩⟩
    · rw [hlen] at hp
      obtain ⟨b, o, rfl⟩ := flat (hcell 0 (by omega))
      refine ⟨b, o, rfl, fun j hj => ?_⟩
      rw [hlen] at hj
      have hj' : j < len := by omega
      have hc := hcell j (by omega)
      rw [add_flat] at hc
      rw [hc, List.getElem?_map, List.getElem?_take_of_lt hj', List.getD_eq_getElem?_getD, List.getElem?_eq_getElem (show j < ss.length by omega)]
      rfl
    · rw [hy] at hb
      change Rows.uptoBulk (DataW.slice (strs (ss.take len)) (strs (ss.drop len))) ≤ _ at hb
      rw [bulk_slice] at hb
      have h1 := bulk_all_le (H := H) (l := strs (ss.take len)) (d := .lit (.string s.data.toList)) (by unfold strs; exact List.mem_map.2 ⟨s, hs, rfl⟩)
      rw [bulk_str] at h1
      have h2 : s.data.toList.length = s.size := by simp
      omega
end
set_option maxRecDepth 100000 in
theorem contract (H : Type) (enc : TypeId × Value → H) (W : World) (base : Nat) (args : Array Value) (ds gs : List (DataW H)) (before : List MemPlace)
    (hval : ∀ (j : Nat) t v, Try.f4.params[j]? = some t → args[j]? = some v → Value.okWide Try.prog W .any base t v)
    (hW : DataW.Whole enc Try.prog Try.f4.params.toList Rows.netAloneSpec.vars false W args.toList ds gs before) (hk : Rows.uptoSmall H (ds ++ gs) = true) :
    Calls Try.prog 4 args W fun e W' => ∃ v, e = .returned v ∧ Rows.netAloneSpec.post enc Try.prog Try.f4 false true false false W args v W' := by
  have hW' := hW
  obtain ⟨p, q, hA0, hV, rfl, hfz, hnd⟩ := hW
  have hA : DataW.TrodAll enc Try.prog W 0 (fun _ => true) true Try.f4.params.toList args.toList ds p := hA0
  rw [Try.params4] at hA hval
  obtain ⟨v0, vs0, d0, ds0, p0, q0, hargs, rfl, rfl, h0, r0⟩ := trodAll_cons hA
  obtain ⟨v1, vs1, d1, ds1, p1, q1, rfl, rfl, rfl, h1, r1⟩ := trodAll_cons r0
  obtain ⟨v2, vs2, d2, ds2, p2, q2, rfl, rfl, rfl, h2, r2⟩ := trodAll_cons r1
  obtain ⟨v3, vs3, d3, ds3, p3, q3, rfl, rfl, rfl, h3, r3⟩ := trodAll_cons r2
  obtain ⟨rfl, rfl, rfl⟩ := trodAll_nil r3
  obtain rfl : args = #[v0, v1, v2, v3] := by cases args; simp_all
  obtain ⟨rfl, rfl⟩ := trodVars_none hV
  obtain ⟨u, rfl, rfl, rfl, hus⟩ := Go.ChangeMaps.open_string Try.underlying9 (hval 2 9 v2 rfl rfl) h2
  obtain ⟨a0, l0, c0, rfl⟩ := okWide_slice Try.underlying22 (hval 0 22 v0 rfl rfl)
  obtain ⟨a1, l1, c1, rfl⟩ := okWide_slice Try.underlying23 (hval 1 23 v1 rfl rfl)
  obtain ⟨a3, l3, c3, rfl⟩ := okWide_slice Try.underlying41 (hval 3 41 v3 rfl rfl)
  have hbulk := of_decide_eq_true hk
  simp only [List.append_nil, Rows.uptoBulkAll, bulk_str] at hbulk
  have hul : u.data.toList.length = u.size := by simp
  have hh0 := h0
  have hh1 := h1
  have hh3 := h3
  have hlt := fun x hx => hW'.lt x hx
  obtain ⟨n0, t0⟩ := h0
  obtain ⟨n1, t1⟩ := h1
  obtain ⟨n3, t3⟩ := h3
  obtain ⟨A, ps, cap, hv0, hpg, hps⟩ := pages_of (v := .slice a0 l0 c0) (by simpa [Value.cells] using t0) (by simp only; omega)
  obtain ⟨A2, fs, cap2, hv1, hft, hfs⟩ := faults_of (v := .slice a1 l1 c1) (by simpa [Value.cells] using t1) (by simp only; omega)
  obtain ⟨A3, qs, cap3, hv3, hst⟩ := strs_of (v := .slice a3 l3 c3) (by simpa [Value.cells] using t3) (by simp only; omega)
  simp only [Value.slice.injEq] at hv0 hv1 hv3
  obtain ⟨rfl, rfl, rfl⟩ := hv0
  obtain ⟨rfl, rfl, rfl⟩ := hv1
  obtain ⟨rfl, rfl, rfl⟩ := hv3
  refine (alone_any W ps fs u qs _ _ _ _ _ _ hpg hft hst (by omega)).mono fun e W' ⟨he, hb⟩ => ?_
  subst he
  refine ⟨_, rfl, post_below (pa := p0 ++ (p1 ++ ([] ++ (p3 ++ [])))) (pv := []) hW' (fun _ _ _ => (trodAll_cons_mk (shut_bool Try.underlying4 _) trodAll_mk0)) (fun sp hsp => ?_) (fun _ _ => rfl) rfl hb (ok_one (by kernel_rfl) rfl (okWide_bool_mk Try.underlying4 _))⟩
  exact trodAll_cons_mk (WideElems.Trod_stays laidOut recPages rowPages hh0 (fun x hx => hb.same (hlt x (by simp [hx]))) (fun x hx => hsp x (by simp [hx])))
    (trodAll_cons_mk (WideElems.Trod_stays laidOut recFaults rowFaults hh1 (fun x hx => hb.same (hlt x (by simp [hx]))) (fun x hx => hsp x (by simp [hx])))
      (trodAll_cons_mk (Go.ChangeMaps.shut_string Try.underlying9 hus) (trodAll_cons_mk (WideElems.Trod_stays laidOut recStrs rowStrs hh3 (fun x hx => hb.same (hlt x (by simp [hx]))) (fun x hx => hsp x (by simp [hx]))) trodAll_mk0)))

set_option maxRecDepth 100000 in
theorem lifted (os : Os) (started : os.Started) (H : Type) (enc : TypeId × Value → H) (F : Stop.Interp) :
    ReturnsInHanded {} Try.checked os 4 .any ((Rows.OpenSpec.upto Rows.netAloneSpec).pre6 enc Try.prog Try.f4 Rows.netAloneUptoRow.domain false) (((Rows.OpenSpec.upto Rows.netAloneSpec).at F).post enc Try.prog Try.f4 false true false false) := by
  refine returnsInHanded_of_cond (C := Try.checked) (s := Rows.OpenSpec.upto Rows.netAloneSpec) (k := Rows.uptoSmall) rfl own started (by kernel_rfl) Try.func4
    (OpenSpec.witness (enc := enc) (C := Try.checked) (s := Rows.OpenSpec.upto Rows.netAloneSpec) (k := Rows.uptoSmall) rfl false ⟨#[], #[.slice none 0 0, .slice none 0 0, .string ⟨#[]⟩, .slice none 0 0], []⟩ 8 (by kernel_rfl) (by kernel_rfl) (by kernel_rfl)
      (x := ([.nil, .nil, .lit (.string []), .nil], [], [])) (by kernel_rfl) rfl (by kernel_rfl)) ?_
  intro W base args ds gs before hval hW _ hk _
  exact contract H enc W base args ds gs before hval hW hk

theorem proved : Rows.NetAloneUptoSaid :=
  OpenClaim.holds_of_cond 4 Try.f4 rfl rfl rfl rfl rfl rfl rfl ⟨rfl, rfl, rfl, rfl, rfl⟩ rfl rfl rfl rfl rfl (by kernel_rfl) Try.func4 (by kernel_rfl)
    (of_decide_eq_true (by kernel_rfl)) (by unfold Func.isWrapper; first | (rw [if_pos (by decide +kernel)]; kernel_rfl) | (rw [if_neg (by decide +kernel)]; exact ⟨rfl, rfl⟩))
    (fun os started H enc _ F => lifted os started H enc F)
#print axioms proved
end Go.Proofs.Ytpblaclhfcomeaa.netAlone
