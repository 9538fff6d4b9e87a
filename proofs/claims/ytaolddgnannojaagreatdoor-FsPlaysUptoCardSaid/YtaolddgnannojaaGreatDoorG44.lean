/-
  FsPlays: the walk.
  The laws' arguments, laid open: what a slice of bytes reads as; the wrap that hands the walk both what is laid and the world's shape.
  What a slice of files reads as.
  The laws' arguments, laid open: bulk; a slice of bytes; a slice of operations.
-/
import Derived.Test.YtaolddgnannojaaGreatDoorG39
import Derived.Test.YtaolddgnannojaaGreatDoorG40
import Derived.Test.YtaolddgnannojaaGreatDoorFsDo8
import Derived.Test.YtaolddgnannojaaGreatDoorFsSm
import Derived.Test.YtaolddgnannojaaGreatDoorG1
import Derived.Test.YtaolddgnannojaaGreatDoorRows
import Derived.Deep.Slices
import Derived.ChangeSlices
import Derived.ChangeArms
import Derived.HandedShaped
import Derived.Test.YtaolddgnannojaaGreatDoorG22
namespace Go.Proofs.YtaolddgnannojaaGreatDoor
open Go.RowKit Go.Maps

attribute [local go_sem] lt1 lt2 lt3 lt4 lt5 lt6

theorem DoesPost.mono {K K' : Nat} {w0 : World} {fb rb : Nat} (hK : K ≤ K') : ∀ (e : Ending) (w' : World), DoesPost K w0 fb rb e w' → DoesPost K' w0 fb rb e w' :=
  fun _ _ ⟨he, M, S, MR, R, h, h1, h2⟩ => ⟨he, M, S, MR, R, h.mono hK, h1, h2⟩
/-- Does, at whatever operation -/
theorem Pair.does {K : Nat} {w0 w : World} {M : FsMem} {S : FsSt} {MR : RMem} {R : RSt} (h : Pair K w0 w M S MR R) (o : OpC) (ho : OpOk o) (hK : K + (2 + o.b.length) ≤ 1048576) {A : Option Addr} {c : Nat} (hb : Bs w0 A c o.b) :
    Calls Tryz.prog 11 #[.pointer (some ⟨M.fb, 0, none⟩), .pointer (some ⟨MR.rb, 0, none⟩), .agg (opCells o A c)] w (DoesPost (K + (2 + o.b.length)) w0 M.fb MR.rb) := by
  by_cases k0 : o.kind = 0
  · exact (does_write h o ho k0 (by omega) A c hb).mono (DoesPost.mono (by omega))
  by_cases k1 : o.kind = 1
  · exact (does_append h o ho k1 (by omega) A c hb).mono (DoesPost.mono (by omega))
  by_cases k2 : o.kind = 2
  · exact (does_sync h o ho k2 (by omega) A c).mono (DoesPost.mono (by omega))
  by_cases k3 : o.kind = 3
  · exact (does_rename h o ho k3 (by omega) A c).mono (DoesPost.mono (by omega))
  by_cases k4 : o.kind = 4
  · exact (does_remove h o ho k4 (by omega) A c).mono (DoesPost.mono (by omega))
  by_cases k5 : o.kind = 5
  · exact (does_syncdir h o ho k5 (by omega) A c).mono (DoesPost.mono (by omega))
  by_cases k6 : o.kind = 6
  · exact (does_arm h o ho k6 A c).mono (DoesPost.mono (by omega))
  by_cases k7 : o.kind = 7
  · exact (does_crash h o ho k7 (by omega) A c).mono (DoesPost.mono (by omega))
  exact (does_read h o ho (by omega) (by omega) A c).mono (DoesPost.mono (by omega))
/-- both are new -/
theorem pair_new {w w1 w2 : World} {q : Int} (hm : MaxL w) {M : FsMem} {MR : RMem} (hu : FsUp 0 w1 M (newS q)) (hb1 : Below w.heap.size w w1) (ho1 : ∀ k, k ∈ M.own → w.heap.size ≤ k) (hr : RAt w2 MR (newR q)) (hb2 : Below w1.heap.size w1 w2) (ho2 : ∀ k, k ∈ MR.own → w1.heap.size ≤ k) :
    Pair 0 w w2 M (newS q) MR (newR q) := by
  refine ⟨⟨⟨hu.below hb2, hb1.trans (hb2.mono hb1.size), ho1⟩, hr, fun k hk => Nat.le_trans hb1.size (ho2 k hk), fun k hk hh => ?_, hm⟩, sim_new q, rinv_new q⟩
  have h1 := hu.at_.lt k hk
  have h2 := ho2 k hh
  omega
def PlRel (w0 : World) (l : List OpC) (rb : Nat) (fv iv : Value) (wr : World) : Prop :=
  ∃ (k : Nat) (M : FsMem) (S : FsSt) (MR : RMem) (R : RSt), k ≤ l.length ∧ iv = .int .i64 k ∧ fv = .pointer (some ⟨M.fb, 0, none⟩) ∧ MR.rb = rb ∧ Pair (wt (l.take k)) w0 wr M S MR R
set_option maxHeartbeats 8000000 in
set_option maxRecDepth 100000 in
theorem plays_law (w : World) (hm : MaxL w) (q : Int) (A : Option Addr) (c : Nat) (l : List OpC) (hl : OpAt w A c l) (hK : wt l + 5 * l.length ≤ 1048576) :
    Calls Tryz.prog 3 #[.int .i64 q, .slice A l.length c] w (LawPost w) := by
  obtain ⟨P, hP⟩ : ∃ P, P = LawPost w := ⟨_, rfl⟩
  rw [← hP]
  have HP := Lib.hid hP
  have HM := Lib.hid hm
  have HL := Lib.hid hl
  have HK := Lib.hid hK
  have hlen := hl.len
  have kc := fun (w : World) (C : Array Value) (n c : Nat) => Lib.run_convert_bytes_const (P := Tryz.prog) w 29 5 C n c Tryz.underlying29 Tryz.underlying5
  clear hP hm hl hK
  go_enter Tryz.func3, Tryz.ntmps3
  go_wp2_with fail
  refine (first_any w HM.out).mono ?_
  rintro e w1 ⟨rfl, hb1⟩
  have Hb1 := Lib.hid hb1
  clear hb1
  go_wp2_with fail
  refine (few_low w1 A c l (HL.out.low Hb1.out)).mono ?_
  rintro e w2 ⟨r1, rfl, hb2⟩
  have Hb2 := Lib.hid (Hb1.out.trans (hb2.mono Hb1.out.size))
  clear hb2
  cases r1
  · have Hend : Hid (P (.returned (.bool true)) w2) := Lib.hid (by rw [HP.out]; exact ⟨rfl, Hb2.out⟩)
    go_wp2_with fail
    exact Hend.out
  have HL2 := Lib.hid (HL.out.low Hb2.out)
  have HM2 := Lib.hid (HM.out.below Hb2.out)
  clear HL HM Hb1 w1
  go_wp2_with fail
  refine (up_new w2 HM2.out q).mono ?_
  rintro e w3 ⟨M0, rfl, hu3, hb3, ho3⟩
  have Hu3 := Lib.hid (And.intro hu3 (And.intro hb3 ho3))
  clear hu3 hb3 ho3
  go_wp2_with fail
  refine (rnew_any w3 q).mono ?_
  rintro e w4 ⟨MR0, rfl, hr4, hb4, ho4⟩
  have hp0 := pair_new HM2.out Hu3.out.1 Hu3.out.2.1 Hu3.out.2.2 hr4 hb4 ho4
  obtain ⟨rb, hrb⟩ : ∃ rb, rb = MR0.rb := ⟨_, rfl⟩
  rw [← hrb]
  have Hrel0 : Hid (PlRel w2 l rb (.pointer (some ⟨M0.fb, 0, none⟩)) (.int .i64 0) w4) := Lib.hid ⟨0, M0, _, MR0, _, by omega, rfl, rfl, hrb.symm, hp0.mono (Nat.zero_le _)⟩
  generalize M0.fb = fb0 at *
  clear hr4 hb4 ho4 hp0 hrb Hu3
  go_wp2_with fail
  go_loopw [7, 9] (fun fv iv wr => PlRel w2 l rb fv iv wr) (fun _ iv _ => l.length - (intOf iv).toNat)
  case atStart => exact Hrel0.out
  case round =>
    clear Hrel0
    obtain ⟨k, M, S, MR, R, hk, rfl, rfl, hrb, hh⟩ := hrel
    have Hh := Lib.hid hh
    have Hrb := Lib.hid hrb
    obtain ⟨fb, hfb⟩ : ∃ fb, fb = M.fb := ⟨_, rfl⟩
    rw [← hfb]
    have Hfb := Lib.hid hfb
    clear hh hrb hfb
    by_cases hlt : k < l.length
    · obtain ⟨b, o, B, cB, rfl, hok, hbs, ⟨q0, q1, q2⟩, q3, q4, q5⟩ := HL2.out.later Hh.out.side.f.below hlt
      have hw := wt_take hlt
      have hwl := wt_le l (k + 1)
      have hk1 : wt (l.take k) + 5 ≤ 1048576 := by have := HK.out; omega
      have hk2 : wt (l.take (k + 1)) ≤ 1048576 := by have := HK.out; omega
      by_cases h8 : (l.getD k noOp).kind = 8
      · have k8 : ((l.getD k noOp).kind == 8) = true := by simp only [beq_iff_eq]; exact h8
        have Hnx : Hid (∀ (M' : FsMem) (wx : World), Pair (wt (l.take k)) w2 wx M' S MR R → PlRel w2 l rb (.pointer (some ⟨M'.fb, 0, none⟩)) (.int .i64 ((k : Int) + 1)) wx) :=
          Lib.hid fun M' wx h1 => ⟨k + 1, M', S, MR, R, by omega, by simp, rfl, Hrb.out, h1.mono (by omega)⟩
        clear hw hwl hok hbs h8 hk2
        generalize l.getD k noOp = op at *
        have hcp := Hh.out.side.f.copy (by omega)
        rw [← Hfb.out] at hcp
        have Hcp := Lib.hid hcp
        clear hcp
        go_wp2_with fail
        refine Hcp.out.mono ?_
        rintro e w5 ⟨M5, rfl, h5, h5o, hap, hb5, ho5⟩
        obtain ⟨fb5, hfb5⟩ : ∃ fb5, fb5 = M5.fb := ⟨_, rfl⟩
        rw [← hfb5]
        have Hs5 := Lib.hid (Hh.out.side.low hb5)
        have H5 := Lib.hid h5
        have Hap := Lib.hid hap
        have Hno : Hid (∀ k, k ∈ M5.own → k ∉ MR.own) := Lib.hid fun k hk hh => by
          have h1 := ho5 k hk
          have h2 := Hh.out.side.r.lt k hh
          omega
        have Hfb5 := Lib.hid hfb5
        have hcw := made_write h5o.up ⟨#[111, 110, 108, 121, 47, 104, 101, 114, 101]⟩ (by decide) [120] (1, 2) (by simp only [List.length_singleton]; omega)
        rw [← Hfb.out] at hcw
        have Hcw := Lib.hid hcw
        have Hinv := Lib.hid (And.intro Hh.out.sim Hh.out.inv)
        clear h5 h5o hap hb5 ho5 hfb5 hcw Hh Hcp
        go_wp2_with fail
        refine Hcw.out.mono ?_
        rintro e w6 ⟨rfl, M6, hu6, g6⟩
        have h6 := Hs5.out.left (Hs5.out.f.next hu6 g6) g6
        obtain ⟨h6a, h6b⟩ := H5.out.aside Hs5.out.f Hap.out.symm g6
        have hcc := h6.f.crash (by simp only [List.length_singleton]; omega) 1 1 (by decide) (by decide)
        rw [show M6.fb = fb by rw [g6.fb]; exact Hfb.out.symm] at hcc
        have Hcc := Lib.hid hcc
        have H6 := Lib.hid h6
        have H6a := Lib.hid h6a
        have H6b := Lib.hid h6b
        clear hu6 g6 h6 h6a h6b hcc Hcw Hs5 H5 Hap
        go_wp2_with fail
        refine Hcc.out.mono ?_
        rintro e w7 ⟨rfl, M7, h7, g7⟩
        have h7s := H6.out.left h7 g7
        obtain ⟨h7a, h7b⟩ := H6a.out.aside H6.out.f H6b.out g7
        have Hfin := Lib.hid (Hnx.out M5 w7 ⟨⟨h7a, h7s.r, h7s.own, Hno.out, h7s.ml⟩, Hinv.out.1, Hinv.out.2⟩)
        rw [← Hfb5.out] at Hfin
        clear h7 g7 h7s h7a h7b Hcc H6 H6a H6b
        go_wp2_with fail
        go_roundw
        case rel => exact Hfin.out
        case measure => simp [intOf]; omega
      · have k8 : ((l.getD k noOp).kind == 8) = false := by simp only [beq_eq_false_iff_ne]; exact h8
        have hdo := Hh.out.does (l.getD k noOp) hok (by omega) hbs
        rw [← hw, ← Hfb.out, Hrb.out] at hdo
        have Hnx : Hid (∀ (M' : FsMem) (S' : FsSt) (MR' : RMem) (R' : RSt) (wx : World), Pair (wt (l.take (k + 1))) w2 wx M' S' MR' R' → M'.fb = fb → MR'.rb = rb → PlRel w2 l rb (.pointer (some ⟨fb, 0, none⟩)) (.int .i64 ((k : Int) + 1)) wx) :=
          Lib.hid fun M' S' MR' R' wx h1 h2 h3 => ⟨k + 1, M', S', MR', R', by omega, by simp, by rw [h2], h3, h1⟩
        unfold opCells at hdo
        have Hdo := Lib.hid hdo
        clear hw hok hbs h8 hdo hwl
        generalize l.getD k noOp = op at *
        go_wp2_with fail
        refine Hdo.out.mono ?_
        rintro e w5 ⟨rfl, M5, S5, MR5, R5, h5, hf5, hr5⟩
        have hsm := same_law h5 hk2
        rw [hf5, hr5] at hsm
        have Hsm := Lib.hid hsm
        have H5 := Lib.hid h5
        clear hsm h5 Hdo Hh
        go_wp2_with fail
        refine Hsm.out.mono ?_
        rintro e w6 ⟨rfl, hb6⟩
        have Hfin := Lib.hid (Hnx.out M5 S5 MR5 R5 w6 (H5.out.low hb6) hf5 hr5)
        clear hb6 Hsm H5
        go_wp2_with fail
        go_roundw
        case rel => exact Hfin.out
        case measure => simp [intOf]; omega
    · have hlI : ¬ (k : Int) < l.length := by omega
      have hkl : wt (l.take k) ≤ 1048576 := by have h1 := wt_le l k; have := HK.out; omega
      have hsm := same_law Hh.out hkl
      rw [← Hfb.out, Hrb.out] at hsm
      have Hsm := Lib.hid hsm
      clear hsm
      go_wp2_with fail
      refine Hsm.out.mono ?_
      rintro e w6 ⟨rfl, hb6⟩
      have Hend : Hid (P (.returned (.bool true)) w6) := Lib.hid (by
        rw [HP.out]
        exact ⟨rfl, Hb2.out.trans ((Hh.out.side.f.below.trans (hb6.mono Hh.out.side.f.below.size)).mono Hb2.out.size)⟩)
      clear hb6 Hsm Hh
      go_wp2_with fail
      exact Hend.out
end Go.Proofs.YtaolddgnannojaaGreatDoor
namespace Go.Proofs.YtaolddgnannojaaGreatDoor
open Go.RowKit Go.ChangeShapes Go.WideShapes Go.Deep

theorem add_flat (b o i : Nat) : (⟨b, o, none⟩ : Addr).add i = ⟨b, o + i, none⟩ := by
  unfold Addr.add
  by_cases h : i = 0 <;> simp [h]
/-- an address at which a cell can be read is a flat one -/
theorem flat {w : World} {a : Addr} {v : Value} (h : w.cell? (a.add 0) = some v) : ∃ b o, a = ⟨b, o, none⟩ := by
  obtain ⟨b, o, s⟩ := a
  cases s with
  | none => exact ⟨b, o, rfl⟩
  | some s =>
    have hs : (⟨b, o, some s⟩ : Addr).add 0 = ⟨b, o, some s⟩ := by simp [Addr.add]
    rw [hs] at h
    unfold World.cell? at h
    split at h
    · simp at h
    · cases h
section
variable {H : Type} {enc : TypeId × Value → H} {W : World} {base : Nat} {spare : Nat → Bool} {held : Bool}

theorem cellsU8 : Tryz.prog.cellsOf 5 = 1 := by kernel_rfl
theorem bytes_of {n : Nat} {v : Value} {y : DataW H × List MemPlace} (h : DataW.trod enc Tryz.prog W base spare held n 29 [v] = some y) :
    ∃ A l cap, v = .slice A l.length cap ∧ Bs W A cap l := by
  rcases open_ints Tryz.underlying29 Tryz.underlying5 cellsU8 h with ⟨hv, hy⟩ | ⟨a, len, cap, zs, hv, _, hl, hm, hz, hy, hcell, hwf⟩
  · simp only [List.cons.injEq, and_true] at hv
    exact ⟨none, [], 0, hv, Bs.none_ W⟩
  · simp only [List.cons.injEq, and_true] at hv
    have hzl : len ≤ zs.length := by rw [hz]; split <;> omega
    have hlen : ((zs.take len).map fun z => UInt8.ofNat z.toNat).length = len := by simp; omega
    refine ⟨some a, (zs.take len).map fun z => UInt8.ofNat z.toNat, cap, by rw [hlen]; exact hv, ⟨by simp [u8s], by simp, by rw [hlen]; exact hl, hm, fun hp => ?_⟩⟩
    rw [hlen] at hp
    obtain ⟨b, o, rfl⟩ := flat (hcell 0 (by omega))
    refine ⟨b, o, rfl, fun j hj => ?_⟩
    rw [hlen] at hj
    have hj' : j < len := by omega
    have hc := hcell j (by omega)
    rw [add_flat] at hc
    rw [hc, u8s_at (by rw [hlen]; omega)]
    have hw := hwf (zs.getD j 0) (by
      rw [List.getD_eq_getElem?_getD, List.getElem?_eq_getElem (by omega)]
      simp)
    have hr : 0 ≤ zs.getD j 0 ∧ zs.getD j 0 ≤ 255 := by simpa [Lit.wf, IntKind.min, IntKind.max, IntKind.signed, IntKind.bits] using hw
    congr 2
    rw [List.getD_eq_getElem?_getD (l := List.map _ _), List.getElem?_map, List.getElem?_take_of_lt hj', List.getElem?_eq_getElem (show j < zs.length by omega)]
    rw [List.getD_eq_getElem?_getD, List.getElem?_eq_getElem (show j < zs.length by omega)] at hr ⊢
    simp at hr ⊢
    omega
end
section
variable {H : Type} {enc : TypeId × Value → H} {P : Program}
/-- the last step of a row whose call leaves all that was there as it was -/
theorem post_below {f : Func} {s : ChangeSpec} {apart fresh handsOn again : Bool} {W W' : World} {args : Array Value} {v : Value} {ds gs : List (DataW H)} {before pa pv : List MemPlace}
    (hW : DataW.Whole enc P f.params.toList s.vars apart W args.toList ds gs before)
    (hres : ∀ (b : Nat) (sp : Nat → Bool) (hd : Bool), DataW.TrodAll enc P W' b sp hd f.resultTypes.toList (v.resultList f.resultTypes.size) (s.fn H (ds ++ gs)).results [])
    (hargs : ∀ sp : Nat → Bool, (∀ p ∈ before, sp p.block = true) → DataW.TrodAll enc P W' 0 sp true f.params.toList args.toList (s.fn H (ds ++ gs)).args pa)
    (hvars : ∀ sp : Nat → Bool, (∀ p ∈ before, sp p.block = true) → DataW.TrodVars enc P W' sp s.vars (s.fn H (ds ++ gs)).vars pv)
    (hps : before = pa ++ pv) (hb : Below W.heap.size W W')
    (hok : ∀ (j : Nat) (t : TypeId) (r : Value), f.resultTypes[j]? = some t → (v.resultList f.resultTypes.size)[j]? = some r → Value.okWide P W' .any 0 t r) :
    s.post enc P f apart fresh handsOn again W args v W' := by
  have hold : ∀ p ∈ before, (fun b => decide (b < W.heap.size)) p.block = true := fun p hp => by simpa using hW.lt p hp
  refine ⟨ds, gs, before, [], pa, pv, hW, hres _ _ _, hargs _ hold, hvars _ hold, World.keptBut_mono (fun p hp => ⟨hp, Or.inr (by rw [hps] at hp; simpa using hp)⟩) (hb.frame (· ∈ before)), fun _ => ?_⟩
  obtain ⟨_, _, _, _, _, hz, hn⟩ := id hW
  refine ⟨hok, _, _, ([] ++ pa) ++ pv, ⟨[] ++ pa, pv, trodAll_append (hargs _ (fun _ _ => rfl)) (hres _ _ _), hvars _ (fun _ _ => rfl), rfl, ?_, ?_⟩, ?_⟩
  · intro b off hp
    have hin : MemPlace.cell b off ∈ before := by rw [hps]; simpa using hp
    rw [hb.frozen (hW.lt _ hin)]
    exact hz b off hin
  · intro ha
    have := hn ha
    rw [hps] at this
    simpa using this
  · intro p hp _
    rw [hps]
    simpa using hp
end


/-- the plain wrap, with a fact of the world's (what is laid) and the world's shape handed on -/
theorem returns_laid_shaped {H : Type} {enc : TypeId × Value → H} {a : Assume} {C : Checked} {os : Os} {f : FuncId} {fn : Func} {s : ChangeSpec} {conds : List PathCond} {apart fresh handsOn again : Bool} {X : World → Array Value → Prop}
    (own : ownKnob C.prog.godebug = none) (started : os.Started) (noInit : C.prog.inits.idxOf? f = none) (hfn : C.prog.funcs[f]? = some fn)
    (witness : ∃ (w : World) (tape : Tape) (i : Input), w.os = os ∧ (w.forCall tape i).Shaped C.prog ∧ i.vars = [] ∧ Input.okWide C.prog (w.forCall tape i) .any w.heap.size f i ∧
      ((s.pre enc C.prog fn conds apart (w.forCall tape i).memory i.args ∧ X (w.forCall tape i).memory i.args) ∧ sizedMet enc C.prog fn (OpenSpec.ofChange s) apart (w.forCall tape i).memory i.args) ∧ a.holds C.prog (lone (Frame.enter C.prog f i.args .normal) [] (w.forCall tape i)))
    (contract : ∀ (W : World) (base : Nat) (args : Array Value) (ds gs : List (DataW H)) (before : List MemPlace),
      (∀ (j : Nat) t v, fn.params[j]? = some t → args[j]? = some v → Value.okWide C.prog W .any base t v) →
      DataW.Whole enc C.prog fn.params.toList s.vars apart W args.toList ds gs before → W.ShapedOpen C.prog →
      Calls C.prog f args W fun e W' => ∃ v, e = .returned v ∧ s.post enc C.prog fn apart fresh handsOn again W args v W') :
    ReturnsInHanded a C os f .any (fun w args => (s.pre enc C.prog fn conds apart w args ∧ X w args) ∧ sizedMet enc C.prog fn (OpenSpec.ofChange s) apart w args) (s.post enc C.prog fn apart fresh handsOn again) := by
  refine returnsInHanded_of_calls own started noInit witness ?_
  intro w tape i _ hsh _ hok hpre _
  obtain ⟨_, _, _, fn', hfn', _, _, _, _, hval⟩ := hok
  have e : fn' = fn := Option.some.inj (hfn'.symm.trans hfn)
  subst e
  obtain ⟨⟨⟨ds, gs, before, hw, _⟩, _⟩, _⟩ := hpre
  refine (contract (w.forCall tape i) w.heap.size i.args ds gs before hval (DataW.Whole.of_heap (w' := w.forCall tape i) (by rfl) hw) hsh).mono fun e W' ⟨v, he, hp⟩ => ?_
  subst he
  exact ChangeSpec.post_blind hp
end Go.Proofs.YtaolddgnannojaaGreatDoor
namespace Go.Proofs.YtaolddgnannojaaGreatDoor
open Go.RowKit Go.ChangeShapes Go.WideShapes Go.Deep

theorem list_of {α : Type} {Q : Nat → α → Prop} : ∀ n : Nat, (∀ i, i < n → ∃ p, Q i p) → ∃ ps : List α, ps.length = n ∧ ∀ i p, ps[i]? = some p → Q i p
  | 0, _ => ⟨[], rfl, by simp⟩
  | n + 1, h => by
    obtain ⟨ps, hl, hq⟩ := list_of n fun i hi => h i (by omega)
    obtain ⟨p, hp⟩ := h n (by omega)
    refine ⟨ps ++ [p], by simp [hl], fun i q hi => ?_⟩
    by_cases hlt : i < ps.length
    · rw [List.getElem?_append_left hlt] at hi
      exact hq i q hi
    · rw [List.getElem?_append_right (by omega)] at hi
      have h0 : i = n := by
        have := (List.getElem?_eq_some_iff.1 hi).1
        simp at this
        omega
      subst h0
      simp [hl] at hi
      subst hi
      exact hp
theorem len2 {α : Type} : ∀ {l : List α}, l.length = 2 → ∃ x0 x1, l = [x0, x1]
  | [x0, x1], _ => ⟨x0, x1, rfl⟩
theorem cellsFile : Tryz.prog.cellsOf 44 = 2 := by kernel_rfl
theorem cellsStr : Tryz.prog.cellsOf 9 = 1 := by kernel_rfl
theorem cellsBytes : Tryz.prog.cellsOf 29 = 1 := by kernel_rfl
end Go.Proofs.YtaolddgnannojaaGreatDoor
namespace Go.Proofs.YtaolddgnannojaaGreatDoor
open Go.RowKit Go.ChangeShapes Go.WideShapes Go.Deep

theorem bulk_pos {H : Type} (d : DataW H) : 1 ≤ Rows.uptoBulk d := by
  cases d with
  | lit l => cases l <;> simp [Rows.uptoBulk]
  | _ => simp [Rows.uptoBulk]
theorem bulk_len {H : Type} : ∀ l : List (DataW H), l.length ≤ Rows.uptoBulkAll l
  | [] => by simp
  | x :: r => by have := bulk_len r; have := bulk_pos x; simp only [Rows.uptoBulkAll, List.length_cons]; omega
theorem bulk_slice {H : Type} (e s : List (DataW H)) : Rows.uptoBulk (.slice e s) = Rows.uptoBulkAll e + Rows.uptoBulkAll s + 1 := by simp only [Rows.uptoBulk]
theorem bulk_agg {H : Type} (e : List (DataW H)) : Rows.uptoBulk (.agg e) = Rows.uptoBulkAll e + 1 := by simp only [Rows.uptoBulk]
theorem bulk_str {H : Type} (b : List UInt8) : Rows.uptoBulk (DataW.lit (H := H) (.string b)) = b.length + 1 := by simp [Rows.uptoBulk]
theorem bulk_sum {H : Type} : ∀ l : List (DataW H), Rows.uptoBulkAll l = (l.map Rows.uptoBulk).sum
  | [] => by simp [Rows.uptoBulkAll]
  | x :: r => by simp only [Rows.uptoBulkAll, List.map_cons, List.sum_cons]; rw [bulk_sum r]
theorem mem_le_sum {x : Nat} : ∀ {l : List Nat}, x ∈ l → x ≤ l.sum
  | y :: r, h => by
    rw [List.sum_cons]
    rcases List.mem_cons.1 h with rfl | h
    · omega
    · have := mem_le_sum h; omega
section
variable {H : Type} {enc : TypeId × Value → H} {W : World} {base : Nat} {spare : Nat → Bool} {held : Bool}

theorem bytes_bulk {n : Nat} {v : Value} {y : DataW H × List MemPlace} (h : DataW.trod enc Tryz.prog W base spare held n 29 [v] = some y) :
    ∃ A l cap, v = .slice A l.length cap ∧ Bs W A cap l ∧ l.length + 1 ≤ Rows.uptoBulk y.1 := by
  obtain ⟨A, l, cap, hv, hb⟩ := bytes_of h
  refine ⟨A, l, cap, hv, hb, ?_⟩
  rcases open_ints Tryz.underlying29 Tryz.underlying5 cellsU8 h with ⟨hv2, hy⟩ | ⟨a, len, cap2, zs, hv2, _, hl, hm, hz, hy, hcell, hwf⟩
  · simp only [List.cons.injEq, and_true] at hv2
    rw [hv] at hv2
    simp only [Value.slice.injEq] at hv2
    have := bulk_pos y.1
    omega
  · simp only [List.cons.injEq, and_true] at hv2
    rw [hv] at hv2
    simp only [Value.slice.injEq] at hv2
    have hzl : len ≤ zs.length := by rw [hz]; split <;> omega
    rw [hy]
    show l.length + 1 ≤ Rows.uptoBulk (DataW.slice (lits .u8 (zs.take len)) (lits .u8 (zs.drop len)))
    rw [bulk_slice]
    have h1 := bulk_len (H := H) (lits .u8 (zs.take len))
    have h2 : (lits (H := H) .u8 (zs.take len)).length = len := by simp [lits]; omega
    omega
theorem len6 {α : Type} : ∀ {l : List α}, l.length = 6 → ∃ x0 x1 x2 x3 x4 x5, l = [x0, x1, x2, x3, x4, x5]
  | [x0, x1, x2, x3, x4, x5], _ => ⟨x0, x1, x2, x3, x4, x5, rfl⟩
theorem cellsOp : Tryz.prog.cellsOf 31 = 6 := by kernel_rfl
theorem cellsInt : Tryz.prog.cellsOf 3 = 1 := by kernel_rfl
theorem wt_sum {D : Nat → DataW H} : ∀ (n : Nat) (qs : List OpC), qs.length = n → (∀ i q, qs[i]? = some q → 7 + q.b.length ≤ Rows.uptoBulk (D i)) → wt qs + 5 * qs.length ≤ (((List.range n).map D).map Rows.uptoBulk).sum := by
  intro n
  induction n with
  | zero =>
    intro qs hl _
    have : qs = [] := List.eq_nil_of_length_eq_zero hl
    subst this
    simp [wt]
  | succ n ih =>
    intro qs hl hq
    have h1 : n < qs.length := by omega
    have h2 := ih (qs.take n) (by simp; omega) fun i q hi => by
      have hin : i < n := by
        have := (List.getElem?_eq_some_iff.1 hi).1
        simp at this
        omega
      rw [List.getElem?_take_of_lt hin] at hi
      exact hq i q hi
    have h3 := wt_take h1
    have h4 : qs.take (n + 1) = qs := by rw [← hl]; exact List.take_length
    have h5 := hq n (qs.getD n noOp) (by rw [List.getD_eq_getElem?_getD, List.getElem?_eq_getElem h1]; rfl)
    rw [h4] at h3
    have h6 : (qs.take n).length = n := by simp; omega
    rw [h6] at h2
    rw [h3, hl, List.range_succ, List.map_append, List.map_append, List.sum_append]
    simp only [List.map_cons, List.map_nil, List.sum_cons, List.sum_nil]
    omega
theorem ops_of {n : Nat} {v : Value} {x : DataW H × List MemPlace} (h : DataW.trod enc Tryz.prog W base spare held n 22 [v] = some x) (hb : Rows.uptoBulk x.1 ≤ 1048576) :
    ∃ A qs cap, v = .slice A (List.length qs) cap ∧ OpAt W A cap qs ∧ wt qs + 5 * qs.length + 1 ≤ Rows.uptoBulk x.1 := by
  rcases open_slice Tryz.underlying22 h with ⟨hv, hy⟩ | ⟨a, len, cap, m, n', D, Pl, hv, _, hl, hm, hmm, hx, hi⟩
  · simp only [List.cons.injEq, and_true] at hv
    exact ⟨none, [], 0, hv, ⟨by simp, by simp, by decide, by simp⟩, by have := bulk_pos x.1; simpa [wt] using this⟩
  · simp only [List.cons.injEq, and_true] at hv
    rw [cellsOp] at hi
    have hlm : len ≤ m := by rw [hmm]; split <;> omega
    have hbulk : Rows.uptoBulkAll ((List.range len).map D) + 1 ≤ Rows.uptoBulk x.1 := by
      rw [hx]
      change _ ≤ Rows.uptoBulk (DataW.slice _ _)
      rw [bulk_slice]
      omega
    have key : ∀ i, i < len → ∃ q : OpC, 7 + q.b.length ≤ Rows.uptoBulk (D i) ∧ OpOk q ∧ ∃ A c, Bs W A c q.b ∧ ∀ j, j < 6 → W.cell? ((a.add (i * 6)).add j) = (opCells q A c)[j]? := by
      intro i hil
      obtain ⟨cs', hc, ht⟩ := hi i (by omega)
      obtain ⟨_, hcl, hat⟩ := World.cells?_some hc
      obtain ⟨xs, n2, _, hD, _, hxl, hf⟩ := DataW.trod_struct Tryz.underlying31 ht
      have hDi : D i = .agg (xs.map (·.1)) := by simpa using congrArg Prod.fst hD
      have hbi : Rows.uptoBulk (D i) ≤ 1048576 := by
        have h1 : Rows.uptoBulk (D i) ≤ Rows.uptoBulkAll ((List.range len).map D) := by
          rw [bulk_sum]
          exact mem_le_sum (List.mem_map.2 ⟨D i, List.mem_map.2 ⟨i, List.mem_range.2 hil, rfl⟩, rfl⟩)
        omega
      obtain ⟨c0, c1, c2, c3, c4, c5, rfl⟩ := len6 hcl
      obtain ⟨y0, y1, y2, y3, y4, y5, rfl⟩ := len6 hxl
      have f0 := hf 0 _ rfl
      have f1 := hf 1 _ rfl
      have f2 := hf 2 _ rfl
      have f3 := hf 3 _ rfl
      have f4 := hf 4 _ rfl
      have f5 := hf 5 _ rfl
      simp [cellsStr, cellsBytes, cellsInt] at f0 f1 f2 f3 f4 f5
      obtain ⟨z0, hz0, _, w0⟩ := DataW.trod_int Tryz.underlying3 f0
      obtain ⟨z1, hz1, _, w1⟩ := DataW.trod_int Tryz.underlying3 f1
      obtain ⟨z2, hz2, _, w2⟩ := DataW.trod_int Tryz.underlying3 f2
      obtain ⟨s, hs, hy3, hsz⟩ := DataW.trod_string Tryz.underlying9 f3
      obtain ⟨s2, hs2, hy4, hsz2⟩ := DataW.trod_string Tryz.underlying9 f4
      obtain ⟨A, l, cp, hsl, hbs, hlb⟩ := bytes_bulk f5
      simp only [List.cons.injEq, and_true] at hs hz0 hz1 hz2 hs2
      rw [hDi, bulk_agg] at hbi ⊢
      simp only [List.map_cons, List.map_nil, Rows.uptoBulkAll] at hbi ⊢
      rw [hy3, hy4] at hbi ⊢
      simp only [bulk_str] at hbi ⊢
      have hp0 := bulk_pos y0.1
      have hp1 := bulk_pos y1.1
      have hp2 := bulk_pos y2.1
      have hsl3 : s.data.toList.length = s.size := by simp
      have hsl4 : s2.data.toList.length = s2.size := by simp
      have b0 : -9223372036854775808 ≤ z0 ∧ z0 ≤ 9223372036854775807 := by simpa [Lit.wf, IntKind.min, IntKind.max, IntKind.signed, IntKind.bits] using w0
      have b1 : -9223372036854775808 ≤ z1 ∧ z1 ≤ 9223372036854775807 := by simpa [Lit.wf, IntKind.min, IntKind.max, IntKind.signed, IntKind.bits] using w1
      have b2 : -9223372036854775808 ≤ z2 ∧ z2 ≤ 9223372036854775807 := by simpa [Lit.wf, IntKind.min, IntKind.max, IntKind.signed, IntKind.bits] using w2
      refine ⟨⟨z0, z1, z2, s, s2, l⟩, by simp only; omega, ⟨by simp only; omega, by simp only; omega, by simp only; omega, b0, b1, b2⟩, A, cp, hbs, fun j hj => ?_⟩
      rw [hat j hj, hz0, hz1, hz2, hs, hs2, hsl]
      match j, hj with
      | 0, _ => rfl
      | 1, _ => rfl
      | 2, _ => rfl
      | 3, _ => rfl
      | 4, _ => rfl
      | 5, _ => rfl
    obtain ⟨qs, hpl, hq⟩ := list_of len key
    refine ⟨some a, qs, cap, by rw [hpl]; exact hv, ⟨by simp, by omega, hm, fun hp => ?_⟩, ?_⟩
    · obtain ⟨p0, hp0⟩ : ∃ p0, qs[0]? = some p0 := ⟨_, List.getElem?_eq_getElem hp⟩
      obtain ⟨_, _, A0, ci0, _, hc0⟩ := hq 0 p0 hp0
      have hfl2 : W.cell? (a.add 0) = some (.int .i64 p0.kind) := by
        have hfl := hc0 0 (by omega)
        have e : (a.add (0 * 6)).add 0 = a.add 0 := by simp [Addr.add]
        rw [e] at hfl
        exact hfl
      obtain ⟨b, o, rfl⟩ := flat hfl2
      refine ⟨b, o, rfl, fun i q hiq => ?_⟩
      obtain ⟨_, k1, A, c, h1, h3⟩ := hq i q hiq
      refine ⟨k1, A, c, h1, fun j hj => ?_⟩
      have := h3 j hj
      rw [add_flat, add_flat] at this
      exact this
    · have h9 := wt_sum (D := D) len qs hpl fun i q hi => (hq i q hi).1
      rw [← bulk_sum] at h9
      omega
end
end Go.Proofs.YtaolddgnannojaaGreatDoor
