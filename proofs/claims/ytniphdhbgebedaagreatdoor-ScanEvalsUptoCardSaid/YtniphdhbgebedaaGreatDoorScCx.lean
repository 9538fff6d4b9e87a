/-
  The parser of constraints: a chain.
-/
import Derived.Test.YtniphdhbgebedaaGreatDoorScCh
namespace Go.Proofs.YtniphdhbgebedaaGreatDoor
open Go.RowKit

set_option linter.unusedSimpArgs false

set_option linter.unusedSimpArgs false

attribute [local go_sem] lt1 lt2 lt3 lt4 lt5 lt6 neq73 eql73 neq73n eql73n

def restL (w : World) (b : Nat) : Nat := match w.cell? ⟨b, 0, none⟩ with
  | some (.string s) => s.size
  | _ => 0
theorem restL_at {w : World} {b : Nat} {s : List UInt8} (h : PrAt w b s) : restL w b = s.length := by
  unfold restL
  rw [(blk_cells h).1 0]
  simp [mkS, ByteArray.size]
def ChRel (w : World) (b l : Nat) (s : List UInt8) (xv : Value) (wr : World) : Prop :=
  ∃ res s1, PrAt wr b s1 ∧ Fr [b] w wr ∧ s1.length ≤ s.length ∧ RsAt wr b res xv ∧ (match res with
    | none => Par (.at (l + 1)) s none s1
    | some x => ∀ r s2, Par (.more (l + 1) x) s1 r s2 → Par (.at (l + 1)) s r s2)
set_option maxRecDepth 100000 in
set_option maxHeartbeats 16000000 in
theorem chain_any (w : World) (b l pf : Nat) (s : List UInt8) (h : PrAt w b s) (hs : s.length ≤ 1048576) (hg : sgn (l + 1) ≠ [])
    (hpf : ∀ (args : Array Value) (x : World), (callFunc pf args).run Tryz.prog x = .ok (.enter pf args) x)
    (hpart : ∀ (x : World) (s' : List UInt8), s'.length ≤ s.length → PrAt x b s' → Calls Tryz.prog pf #[.pointer (some ⟨b, 0, none⟩)] x (PrPost x b (.at l) s')) :
    Calls Tryz.prog 106 #[.pointer (some ⟨b, 0, none⟩), .string (mkS (sgn (l + 1))), .func (.func pf) #[.pointer (some ⟨b, 0, none⟩)] #[], .func (.func (botF (l + 1))) #[] #[]] w (PrPost w b (.at (l + 1)) s) := by
  have hbf := bot_enter (l + 1)
  have hbot := bot_any (l + 1)
  obtain ⟨bf, hbfe⟩ : ∃ f, botF (l + 1) = f := ⟨_, rfl⟩
  rw [hbfe] at hbf hbot ⊢
  obtain ⟨G, hG⟩ : ∃ G, mkS (sgn (l + 1)) = G := ⟨_, rfl⟩
  have hsign : ∀ (x : World) (s' : List UInt8), s'.length ≤ 1048576 → PrAt x b s' → Calls Tryz.prog 136 #[.pointer (some ⟨b, 0, none⟩), .string G] x (SgPost x b (sgn (l + 1)) s') := fun x s' hl hp => by rw [← hG]; exact sign_any x b _ s' hp hl
  rw [hG]
  have HSign := Lib.hid hsign
  have HPart := Lib.hid hpart
  have HBot := Lib.hid hbot
  have H := Lib.hid h
  have HG := Lib.hid hg
  clear hsign hpart hbot h hG hbfe hg
  go_enter Tryz.func106, Tryz.ntmps106
  go_wp2_with fail
  refine (HPart.out w s (Nat.le_refl _) H.out).mono ?_
  rintro e y ⟨v, res, r, rfl, hpar, hpr, hF, hrs⟩
  have hrel0 : ChRel w b l s v y := by
    refine ⟨res, r, hpr, hF, par_len hpar, hrs, ?_⟩
    cases res with
    | none => exact .firstNo hpar
    | some x => exact fun r' s2 h => .first hpar h
  have Hrel0 := Lib.hid hrel0
  clear hpar hpr hF hrs hrel0
  go_wp2_with fail
  go_loopw [9] (fun xv wr => ChRel w b l s xv wr) (fun _ wr => restL wr b)
  case atStart => exact Hrel0.out
  case round =>
    clear Hrel0
    obtain ⟨res, s1, hpr, hF, hlen, hrs, hnext⟩ := hrel
    cases res with
    | none =>
      unfold RsAt at hrs
      simp only at hrs hnext
      subst hrs
      have HP : Hid (PrPost w b (.at (l + 1)) s (.returned .nilFunc) wr) := Lib.hid ⟨_, none, s1, rfl, hnext, hpr, hF, rfl⟩
      clear hpr hF hnext
      go_wp2_with fail
      go_ret
      exact HP.out
    | some x =>
      unfold RsAt at hrs
      simp only at hrs hnext
      have hx := hrs
      obtain ⟨fx, cx, rfl⟩ := hrs.form
      have Hx := Lib.hid hx
      have Hpr := Lib.hid hpr
      have HF := Lib.hid hF
      have Hnext := Lib.hid hnext
      clear hx hrs hpr hF hnext
      go_wp2_with fail
      refine (HSign.out wr s1 (by omega) Hpr.out).mono ?_
      rintro e y1 ⟨rfl, hp1, hF1⟩
      obtain ⟨t, s2, hsg⟩ : ∃ t s2, signP (sgn (l + 1)) s1 = (t, s2) := ⟨_, _, rfl⟩
      rw [hsg] at hp1 ⊢
      simp only at hp1 ⊢
      have hl2 := sign_len hsg
      have hF1' := HF.out.trans hF1
      have hx1 := Hx.out.keep hF1
      cases t with
      | false =>
        have HP : Hid (PrPost w b (.at (l + 1)) s (.returned (.func (.func fx) #[] cx)) y1) := Lib.hid ⟨_, some x, s2, rfl, Hnext.out _ _ (.stop hsg), hp1, hF1', hx1⟩
        clear hp1 hF1 hF1' hx1 hsg hl2
        go_wp2_with fail
        go_ret
        exact HP.out
      | true =>
        have hl3 : s2.length < s1.length := hl2.2 rfl HG.out
        have Hp1 := Lib.hid hp1
        have HF1 := Lib.hid hF1'
        have Hx1 := Lib.hid hx1
        have Hsg := Lib.hid hsg
        clear hp1 hF1 hF1' hx1 hsg hl2
        go_wp2_with fail
        refine (HPart.out y1 s2 (by omega) Hp1.out).mono ?_
        rintro e y2 ⟨v2, res2, s3, rfl, hpar, hp2, hF2, hrs2⟩
        have hl4 := par_len hpar
        have hF2' := HF1.out.trans hF2
        have hx2 := Hx1.out.keep hF2
        cases res2 with
        | none =>
          unfold RsAt at hrs2
          simp only at hrs2
          subst hrs2
          have HP : Hid (PrPost w b (.at (l + 1)) s (.returned .nilFunc) y2) := Lib.hid ⟨_, none, s3, rfl, Hnext.out _ _ (.moreNo Hsg.out hpar), hp2, hF2', rfl⟩
          clear hpar hp2 hF2 hF2' hx2
          go_wp2_with fail
          go_ret
          exact HP.out
        | some x2 =>
          have hv2 : ExAt y2 b x2 v2 := hrs2
          obtain ⟨f2, c2, rfl⟩ := hv2.form
          have hbl := lt_of_heap hp2
          have HX2 := Lib.hid hx2
          have HV2 := Lib.hid hv2
          have Hp2 := Lib.hid hp2
          have HF2 := Lib.hid hF2'
          have Hnx := Lib.hid (fun r s' h => Hnext.out r s' (.more Hsg.out hpar h))
          clear hpar hp2 hF2 hF2' hx2 hv2 hrs2
          go_wp2_with fail
          refine (HBot.out y2 b x x2 _ _ hbl HX2.out HV2.out).mono ?_
          rintro e y3 ⟨v3, rfl, hB3, hE3⟩
          have hp3 : PrAt y3 b s3 := (hB3.out.block b hbl).trans Hp2.out
          have hrel3 : ChRel w b l s v3 y3 := ⟨some (opE (l + 1) x x2), s3, hp3, HF2.out.trans (Fr.of_below hB3.out _), by omega, hE3.out, Hnx.out⟩
          have hm : restL y3 b < restL wr b := by rw [restL_at hp3, restL_at Hpr.out]; omega
          have HR := Lib.hid hrel3
          have HM := Lib.hid hm
          clear hp3 hrel3 hm hB3 hE3
          go_wp2_with fail
          exact ⟨HR.out, HM.out⟩
end Go.Proofs.YtniphdhbgebedaaGreatDoor
