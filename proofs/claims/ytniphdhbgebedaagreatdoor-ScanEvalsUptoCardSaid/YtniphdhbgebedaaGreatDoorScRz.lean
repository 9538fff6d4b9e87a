/-
  The reference's constraints: not, and, or; Eval.
-/
import Derived.Test.YtniphdhbgebedaaGreatDoorScRy
namespace Go.Proofs.YtniphdhbgebedaaGreatDoor
open Go.RowKit

set_option linter.unusedSimpArgs false

set_option linter.unusedSimpArgs false

attribute [local go_sem] lt1 lt2 lt3 lt4 lt5 lt6

def nots : Nat → Ex → Ex
  | 0, x => x
  | k + 1, x => nots k (.not x)
theorem nots_ev (has : List UInt8 → Bool) : ∀ (k : Nat) (x : Ex), (nots k x).ev has = if k % 2 = 1 then !x.ev has else x.ev has
  | 0, x => rfl
  | k + 1, x => by
    rw [nots, nots_ev has k, Ex.ev]
    rcases Nat.mod_two_eq_zero_or_one k with h | h
    · rw [if_neg (by omega), if_pos (by omega)]
    · rw [if_pos h, if_neg (by omega), Bool.not_not]
def NtR (p : Nat) (s : List UInt8) (tv : Value) (w : World) (nv : Value) (wr : World) : Prop := ∃ (k : Nat) (s' : List UInt8), nv = .int .i64 (k : Nat) ∧ k + s'.length ≤ s.length ∧ Hid (XAt wr p s' tv true) ∧ Hid (Fr [p] w wr) ∧ Hid (∀ a r, Par (.at 0) s' a r → Par (.at 0) s (a.map (nots k)) r)
set_option maxRecDepth 100000 in
set_option maxHeartbeats 16000000 in
theorem rnot_any (w : World) (p : Nat) (T : List ByteArray) (A : Option Addr) (cp : Nat) (s : List UInt8) (h : XAt w p s (.slice A T.length cp) true) (hs : s.length ≤ 1048576) (hT : ∀ y, Fr [p] w y → Sl y A cp T.length 1 (txV T)) (hTl : T.length ≤ 1048576)
    (hor : ∀ (y : World) (s' : List UInt8), s'.length < s.length → XAt y p s' (.slice A T.length cp) true → Fr [p] w y → Calls Tryz.prog 37 #[.pointer (some ⟨p, 0, none⟩)] y (RxPost p (.slice A T.length cp) (hasT T) 2 s' y)) :
    Calls Tryz.prog 117 #[.pointer (some ⟨p, 0, none⟩)] w (RxPost p (.slice A T.length cp) (hasT T) 0 s w) := by
  obtain ⟨RP, hRP⟩ : ∃ RP, RP = RxPost p (.slice A T.length cp) (hasT T) 0 s w := ⟨_, rfl⟩
  rw [← hRP]
  have HRP := Lib.hid hRP
  have HT := Lib.hid hT
  have HOr := Lib.hid hor
  have H := Lib.hid h
  clear hRP hT hor h
  go_enter Tryz.func117, Tryz.ntmps117
  go_wp2_with fail
  go_loopw [3] (fun nv wr => NtR p s (.slice A T.length cp) w nv wr) (fun _ wr => xLen p wr)
  case atStart => exact ⟨0, s, rfl, by omega, H, Lib.hid (Fr.refl _ _), Lib.hid fun a r h => by cases a <;> exact h⟩
  case round =>
    obtain ⟨k, s', rfl, hk, HX, HF, HP⟩ := hrel
    have hkr : (0 : Int) ≤ k := by omega
    have Hlen := Lib.hid HX.out.len
    have htk := takes_any wr p [33] s' _ true HX.out (by omega) (by simp)
    have HTk := Lib.hid htk
    clear htk
    go_wp2_with fail
    refine HTk.out.mono ?_
    rintro e y ⟨rfl, hX1, hF1⟩
    obtain ⟨t, s2, hsg⟩ : ∃ t s2, signP [33] s' = (t, s2) := ⟨_, _, rfl⟩
    have hl2 := rsign_len hsg
    rw [hsg] at hX1 ⊢
    simp only at hX1 ⊢
    cases t with
    | true =>
      have hlt2 : s2.length + 1 ≤ s'.length := by have := hl2.2 rfl; simpa using this
      have HR : Hid (NtR p s (.slice A T.length cp) w (.int .i64 ((k : Int) + 1)) y) := Lib.hid ⟨k + 1, s2, by go_num, by omega, Lib.hid hX1, Lib.hid (HF.out.trans hF1), Lib.hid fun a r h => by
        cases a with
        | none => exact HP.out none r (.bangNo hsg h)
        | some x => exact HP.out (some (.not x)) r (.bang hsg h)⟩
      have HM : Hid (xLen p y < xLen p wr) := Lib.hid (by rw [hX1.len, Hlen.out]; omega)
      clear hX1 hF1 hsg hl2
      go_wp2_with fail
      exact ⟨HR.out, HM.out⟩
    | false =>
      have hF2 := HF.out.trans hF1
      have ho := rone_any y p T A cp s' s2 hX1 hsg (by omega) (fun z hz => HT.out z (hF2.trans hz)) hTl (fun z s'' hl hx hf => HOr.out z s'' (by omega) hx (hF2.trans hf))
      have HO := Lib.hid ho
      have HF2 := Lib.hid hF2
      clear hX1 hF1 hsg hF2 ho hl2
      go_wp2_with fail
      refine HO.out.mono ?_
      rintro e y2 ⟨b, rfl, hF3, hres⟩
      have hHE : RP (.returned (.bool (if k % 2 = 1 then !b else b))) y2 := by
        rw [HRP.out]
        refine ⟨_, rfl, HF2.out.trans hF3, ?_⟩
        rcases hres with ⟨a, r, hpar, hb, hX⟩ | ⟨r, s'', hpar, hl, hX⟩
        · exact .inl ⟨nots k a, r, HP.out (some a) r hpar, by rw [nots_ev, hb], hX⟩
        · exact .inr ⟨r, s'', HP.out none r hpar, by omega, hX⟩
      have hkk : k % 2 = 1 ∨ k % 2 = 0 := by omega
      rcases hkk with h2 | h2
      · rw [if_pos h2] at hHE
        have HE := Lib.hid hHE
        have hm : (((k : Int).tmod 2 == 1)) = true := by rw [Int.tmod_eq_emod_of_nonneg hkr, beq_iff_eq]; omega
        clear hHE hres hF3
        go_wp2_with fail
        exact HE.out
      · rw [if_neg (by omega)] at hHE
        have HE := Lib.hid hHE
        have hm : (((k : Int).tmod 2 == 1)) = false := by rw [Int.tmod_eq_emod_of_nonneg hkr, beq_eq_false_iff_ne]; omega
        clear hHE hres hF3
        go_wp2_with fail
        exact HE.out
/-- the chain so far -/
def ChR (p l : Nat) (s : List UInt8) (tv : Value) (has : List UInt8 → Bool) (w : World) (vv : Value) (wr : World) : Prop := ∃ b, vv = .bool b ∧ Hid (Fr [p] w wr) ∧
  ((∃ a s', Hid (b = a.ev has) ∧ s'.length ≤ s.length ∧ Hid (XAt wr p s' tv true) ∧ Hid (∀ res r, Par (.more (l + 1) a) s' res r → Par (.at (l + 1)) s res r)) ∨
   (∃ r s', s'.length ≤ s.length ∧ Hid (Par (.at (l + 1)) s none r) ∧ Hid (XAt wr p s' tv false)))
set_option maxRecDepth 100000 in
set_option maxHeartbeats 16000000 in
theorem rand_any (w : World) (p : Nat) (T : List ByteArray) (A : Option Addr) (cp : Nat) (s : List UInt8) (h : XAt w p s (.slice A T.length cp) true) (hs : s.length ≤ 1048576)
    (hsub : ∀ (y : World) (s' : List UInt8), s'.length ≤ s.length → XAt y p s' (.slice A T.length cp) true → Fr [p] w y → Calls Tryz.prog 117 #[.pointer (some ⟨p, 0, none⟩)] y (RxPost p (.slice A T.length cp) (hasT T) 0 s' y)) :
    Calls Tryz.prog 70 #[.pointer (some ⟨p, 0, none⟩)] w (RxPost p (.slice A T.length cp) (hasT T) (0 + 1) s w) := by
  obtain ⟨RP, hRP⟩ : ∃ RP, RP = RxPost p (.slice A T.length cp) (hasT T) (0 + 1) s w := ⟨_, rfl⟩
  rw [← hRP]
  have HRP := Lib.hid hRP
  have hs1 := hsub w s (Nat.le_refl _) h (Fr.refl _ _)
  have HS1 := Lib.hid hs1
  have HSub := Lib.hid hsub
  clear hRP hsub hs1 h
  go_enter Tryz.func70, Tryz.ntmps70
  go_wp2_with fail
  refine HS1.out.mono ?_
  rintro e y0 ⟨b0, rfl, hF0, hres0⟩
  have HR0 : Hid (ChR p 0 s (.slice A T.length cp) (hasT T) w (.bool b0) y0) := Lib.hid (by
    refine ⟨b0, rfl, Lib.hid hF0, ?_⟩
    rcases hres0 with ⟨a, r, hpar, hb, hX⟩ | ⟨r, s', hpar, hl, hX⟩
    · exact .inl ⟨a, r, Lib.hid hb, (tags_in hpar).1.length_le, Lib.hid hX, Lib.hid fun res r' h => .first hpar h⟩
    · exact .inr ⟨r, s', hl, Lib.hid (.firstNo hpar), Lib.hid hX⟩)
  clear hF0 hres0 HS1
  go_wp2_with fail
  go_loopw [3, 4] (fun vv _ wr => ChR p 0 s (.slice A T.length cp) (hasT T) w vv wr) (fun _ _ wr => xLen p wr)
  case atStart => exact HR0.out
  case round =>
    obtain ⟨b, rfl, HF, ⟨a, s', Hb, hl, HX, HP⟩ | ⟨r, s', hl, HP, HX⟩⟩ := hrel
    · have hc2 : wr.cell? ⟨p, 2, none⟩ = some (.bool true) := (blk_cells HX.out).1 2
      have htk := takes_any wr p (sgn (0 + 1)) s' _ true HX.out (by omega) (by simp [sgn])
      rw [show mkS (sgn (0 + 1)) = ⟨#[38, 38]⟩ from rfl] at htk
      have HTk := Lib.hid htk
      have Hlen := Lib.hid HX.out.len
      clear htk
      obtain ⟨t, s2, hsg⟩ : ∃ t s2, signP (sgn (0 + 1)) s' = (t, s2) := ⟨_, _, rfl⟩
      have hl2 := rsign_len hsg
      have Hsg := Lib.hid hsg
      clear hsg
      cases t with
      | false =>
        have HTk2 : Hid (Calls Tryz.prog 71 #[.pointer (some ⟨p, 0, none⟩), .string ⟨#[38, 38]⟩] wr fun e y => e = .returned (.bool false) ∧ RP (.returned (.bool b)) y) := Lib.hid (HTk.out.mono fun e y ⟨h1, h2, h3⟩ => by
          rw [Hsg.out] at h1 h2
          refine ⟨h1, ?_⟩
          rw [HRP.out]
          exact ⟨b, rfl, HF.out.trans h3, .inl ⟨a, s2, HP.out _ _ (.stop Hsg.out), Hb.out, h2⟩⟩)
        clear HTk hl2
        go_wp2_with (go_at_call 71; refine HTk2.out.mono ?_; rintro e y ⟨rfl, hy⟩; have HY := Lib.hid hy; clear hy)
        exact HY.out
      | true =>
        have hlt2 : s2.length + 2 ≤ s'.length := by have := hl2.2 rfl; simpa [sgn] using this
        have HTk2 : Hid (Calls Tryz.prog 71 #[.pointer (some ⟨p, 0, none⟩), .string ⟨#[38, 38]⟩] wr fun e y => e = .returned (.bool true) ∧ Hid (XAt y p s2 (.slice A T.length cp) true) ∧ Hid (Fr [p] w y)) := Lib.hid (HTk.out.mono fun e y ⟨h1, h2, h3⟩ => by
          rw [Hsg.out] at h1 h2
          exact ⟨h1, Lib.hid h2, Lib.hid (HF.out.trans h3)⟩)
        clear HTk hl2
        go_wp2_with (go_at_call 71; refine HTk2.out.mono ?_; rintro e y ⟨rfl, HXy, HFy⟩)
        refine (HSub.out _ s2 (by omega) HXy.out HFy.out).mono ?_
        rintro e z ⟨c, rfl, hFz, hres⟩
        have hHR : ChR p 0 s (.slice A T.length cp) (hasT T) w (.bool (b && c)) z ∧ xLen p z < xLen p wr := by
          rw [Hlen.out]
          rcases hres with ⟨d, r, hpar, hd, hX⟩ | ⟨r, s3, hpar, hl3, hX⟩
          · have hrl : r.length ≤ s2.length := (tags_in hpar).1.length_le
            exact ⟨⟨_, rfl, Lib.hid (HFy.out.trans hFz), .inl ⟨opE (0 + 1) a d, r, Lib.hid (by rw [Hb.out, hd]; rfl), by omega, Lib.hid hX, Lib.hid fun res r' h => HP.out _ _ (.more Hsg.out hpar h)⟩⟩, by rw [hX.len]; omega⟩
          · exact ⟨⟨_, rfl, Lib.hid (HFy.out.trans hFz), .inr ⟨r, s3, by omega, Lib.hid (HP.out _ _ (.moreNo Hsg.out hpar)), Lib.hid hX⟩⟩, by rw [hX.len]; omega⟩
        have HR := Lib.hid hHR
        clear hHR hres hFz Hb
        cases b
        · go_wp2_with fail
          exact HR.out
        · go_wp2_with fail
          exact HR.out
    · have hc2 : wr.cell? ⟨p, 2, none⟩ = some (.bool false) := (blk_cells HX.out).1 2
      have HE : Hid (RP (.returned (.bool b)) wr) := Lib.hid (by rw [HRP.out]; exact ⟨b, rfl, HF.out, .inr ⟨r, s', HP.out, hl, HX.out⟩⟩)
      go_wp2_with fail
      exact HE.out
set_option maxRecDepth 100000 in
set_option maxHeartbeats 16000000 in
theorem ror_any (w : World) (p : Nat) (T : List ByteArray) (A : Option Addr) (cp : Nat) (s : List UInt8) (h : XAt w p s (.slice A T.length cp) true) (hs : s.length ≤ 1048576)
    (hsub : ∀ (y : World) (s' : List UInt8), s'.length ≤ s.length → XAt y p s' (.slice A T.length cp) true → Fr [p] w y → Calls Tryz.prog 70 #[.pointer (some ⟨p, 0, none⟩)] y (RxPost p (.slice A T.length cp) (hasT T) 1 s' y)) :
    Calls Tryz.prog 37 #[.pointer (some ⟨p, 0, none⟩)] w (RxPost p (.slice A T.length cp) (hasT T) (1 + 1) s w) := by
  obtain ⟨RP, hRP⟩ : ∃ RP, RP = RxPost p (.slice A T.length cp) (hasT T) (1 + 1) s w := ⟨_, rfl⟩
  rw [← hRP]
  have HRP := Lib.hid hRP
  have hs1 := hsub w s (Nat.le_refl _) h (Fr.refl _ _)
  have HS1 := Lib.hid hs1
  have HSub := Lib.hid hsub
  clear hRP hsub hs1 h
  go_enter Tryz.func37, Tryz.ntmps37
  go_wp2_with fail
  refine HS1.out.mono ?_
  rintro e y0 ⟨b0, rfl, hF0, hres0⟩
  have HR0 : Hid (ChR p 1 s (.slice A T.length cp) (hasT T) w (.bool b0) y0) := Lib.hid (by
    refine ⟨b0, rfl, Lib.hid hF0, ?_⟩
    rcases hres0 with ⟨a, r, hpar, hb, hX⟩ | ⟨r, s', hpar, hl, hX⟩
    · exact .inl ⟨a, r, Lib.hid hb, (tags_in hpar).1.length_le, Lib.hid hX, Lib.hid fun res r' h => .first hpar h⟩
    · exact .inr ⟨r, s', hl, Lib.hid (.firstNo hpar), Lib.hid hX⟩)
  clear hF0 hres0 HS1
  go_wp2_with fail
  go_loopw [3, 4] (fun vv _ wr => ChR p 1 s (.slice A T.length cp) (hasT T) w vv wr) (fun _ _ wr => xLen p wr)
  case atStart => exact HR0.out
  case round =>
    obtain ⟨b, rfl, HF, ⟨a, s', Hb, hl, HX, HP⟩ | ⟨r, s', hl, HP, HX⟩⟩ := hrel
    · have hc2 : wr.cell? ⟨p, 2, none⟩ = some (.bool true) := (blk_cells HX.out).1 2
      have htk := takes_any wr p (sgn (1 + 1)) s' _ true HX.out (by omega) (by simp [sgn])
      rw [show mkS (sgn (1 + 1)) = ⟨#[124, 124]⟩ from rfl] at htk
      have HTk := Lib.hid htk
      have Hlen := Lib.hid HX.out.len
      clear htk
      obtain ⟨t, s2, hsg⟩ : ∃ t s2, signP (sgn (1 + 1)) s' = (t, s2) := ⟨_, _, rfl⟩
      have hl2 := rsign_len hsg
      have Hsg := Lib.hid hsg
      clear hsg
      cases t with
      | false =>
        have HTk2 : Hid (Calls Tryz.prog 71 #[.pointer (some ⟨p, 0, none⟩), .string ⟨#[124, 124]⟩] wr fun e y => e = .returned (.bool false) ∧ RP (.returned (.bool b)) y) := Lib.hid (HTk.out.mono fun e y ⟨h1, h2, h3⟩ => by
          rw [Hsg.out] at h1 h2
          refine ⟨h1, ?_⟩
          rw [HRP.out]
          exact ⟨b, rfl, HF.out.trans h3, .inl ⟨a, s2, HP.out _ _ (.stop Hsg.out), Hb.out, h2⟩⟩)
        clear HTk hl2
        go_wp2_with (go_at_call 71; refine HTk2.out.mono ?_; rintro e y ⟨rfl, hy⟩; have HY := Lib.hid hy; clear hy)
        exact HY.out
      | true =>
        have hlt2 : s2.length + 2 ≤ s'.length := by have := hl2.2 rfl; simpa [sgn] using this
        have HTk2 : Hid (Calls Tryz.prog 71 #[.pointer (some ⟨p, 0, none⟩), .string ⟨#[124, 124]⟩] wr fun e y => e = .returned (.bool true) ∧ Hid (XAt y p s2 (.slice A T.length cp) true) ∧ Hid (Fr [p] w y)) := Lib.hid (HTk.out.mono fun e y ⟨h1, h2, h3⟩ => by
          rw [Hsg.out] at h1 h2
          exact ⟨h1, Lib.hid h2, Lib.hid (HF.out.trans h3)⟩)
        clear HTk hl2
        go_wp2_with (go_at_call 71; refine HTk2.out.mono ?_; rintro e y ⟨rfl, HXy, HFy⟩)
        refine (HSub.out _ s2 (by omega) HXy.out HFy.out).mono ?_
        rintro e z ⟨c, rfl, hFz, hres⟩
        have hHR : ChR p 1 s (.slice A T.length cp) (hasT T) w (.bool (b || c)) z ∧ xLen p z < xLen p wr := by
          rw [Hlen.out]
          rcases hres with ⟨d, r, hpar, hd, hX⟩ | ⟨r, s3, hpar, hl3, hX⟩
          · have hrl : r.length ≤ s2.length := (tags_in hpar).1.length_le
            exact ⟨⟨_, rfl, Lib.hid (HFy.out.trans hFz), .inl ⟨opE (1 + 1) a d, r, Lib.hid (by rw [Hb.out, hd]; rfl), by omega, Lib.hid hX, Lib.hid fun res r' h => HP.out _ _ (.more Hsg.out hpar h)⟩⟩, by rw [hX.len]; omega⟩
          · exact ⟨⟨_, rfl, Lib.hid (HFy.out.trans hFz), .inr ⟨r, s3, by omega, Lib.hid (HP.out _ _ (.moreNo Hsg.out hpar)), Lib.hid hX⟩⟩, by rw [hX.len]; omega⟩
        have HR := Lib.hid hHR
        clear hHR hres hFz Hb
        cases b
        · go_wp2_with fail
          exact HR.out
        · go_wp2_with fail
          exact HR.out
    · have hc2 : wr.cell? ⟨p, 2, none⟩ = some (.bool false) := (blk_cells HX.out).1 2
      have HE : Hid (RP (.returned (.bool b)) wr) := Lib.hid (by rw [HRP.out]; exact ⟨b, rfl, HF.out, .inr ⟨r, s', HP.out, hl, HX.out⟩⟩)
      go_wp2_with fail
      exact HE.out
end Go.Proofs.YtniphdhbgebedaaGreatDoor
