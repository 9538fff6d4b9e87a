/-
  FsKept: the walk.
-/
import Derived.Test.YtaolddgnannojaaDoorFsRefused
namespace Go.Proofs.YtaolddgnannojaaDoor
open Go.RowKit Go.Maps

attribute [local go_sem] lt1 lt2 lt3 lt4 lt5 lt6

def KeRel (n : Nat) (w : World) (iv : Value) (wr : World) : Prop := ∃ k : Nat, k ≤ n ∧ iv = .int .i64 k ∧ ∃ m, wr = w.drewN m
theorem below_drewN (w : World) (n : Nat) : Below w.heap.size w (w.drewN n) := ⟨rfl, rfl, rfl, Nat.le_refl _, fun _ _ => rfl⟩
set_option maxHeartbeats 8000000 in
set_option maxRecDepth 100000 in
theorem kept_law (w : World) (hm : MaxL w) (q : Int) (A : Option Addr) (c : Nat) (l : List OpC) (hl : OpAt w A c l) (hK : wt l ≤ 1048576) (n y g : Int) (hn : n ≤ 9223372036854775807) (hy : y ≤ 9223372036854775807) (hg : g ≤ 9223372036854775807) :
    Calls Tryd.prog 7 #[.int .i64 q, .slice A l.length c, .int .i64 n, .int .i64 y, .int .i64 g] w (LawPost w) := by
  obtain ⟨P, hP⟩ : ∃ P, P = LawPost w := ⟨_, rfl⟩
  rw [← hP]
  have HP := Lib.hid hP
  have HM := Lib.hid hm
  have HL := Lib.hid hl
  have HK := Lib.hid hK
  clear hP hm hl hK
  go_enter Tryd.func7, Tryd.ntmps7
  go_wp2_with fail
  refine (first_any w HM.out).mono ?_
  rintro e w1 ⟨rfl, hb1⟩
  have Hb1 := Lib.hid hb1
  clear hb1
  go_wp2_with fail
  refine (few_low w1 A c l (HL.out.low Hb1.out)).mono ?_
  rintro e w2 ⟨r1, rfl, hb2⟩
  have Hb2 := Lib.hid (Hb1.out.trans (hb2.mono Hb1.out.size))
  clear hb2
  cases r1
  · have Hend : Hid (P (.returned (.bool true)) w2) := Lib.hid (by rw [HP.out]; exact ⟨rfl, Hb2.out⟩)
    go_wp2_with fail
    exact Hend.out
  have HL2 := Lib.hid (HL.out.low Hb2.out)
  have HM2 := Lib.hid (HM.out.below Hb2.out)
  clear HL HM Hb1 w1
  go_wp2_with fail
  refine (made_any w2 HM2.out q A c l HL2.out HK.out).mono ?_
  rintro e w4 ⟨M1, rfl, h1, hb, ho⟩
  have H1 : Hid (Held (wt l) w2 w4 M1 ((newS q).tells l)) := Lib.hid ⟨h1, hb, ho⟩
  generalize (newS q).tells l = S at *
  clear h1 hb ho
  go_wp2_with fail
  refine (H1.out.copy HK.out).mono ?_
  rintro e w5 ⟨M2, rfl, h2, h1, a12, hb, ho⟩
  have H1 := Lib.hid h1
  have H2 := Lib.hid h2
  have A12 := Lib.hid a12
  have HG := Lib.hid h1.up.good
  clear h1 h2 a12 hb ho
  have E1 := Lib.hid (crash_same HG.out n y)
  have E2 := Lib.hid (crash_least HG.out)
  have E3 := Lib.hid (crash_again HG.out n y g g)
  have E4 := Lib.hid (fun h : n ≤ 0 => crash_none HG.out h y)
  go_wp2_with fail
  refine (H1.out.durable HK.out).mono ?_
  rintro e w6 ⟨A6, c6, rfl, L6, b6⟩
  have O1 := Lib.hid (H1.out.up.at_.off w6.heap.size)
  have O2 := Lib.hid (H2.out.up.at_.off w6.heap.size)
  have H1 := Lib.hid (H1.out.low b6)
  have H2 := Lib.hid (H2.out.low b6)
  have L6 := Lib.hid L6
  clear b6
  go_wp2_with fail
  refine (H1.out.crash HK.out n y hn hy).mono ?_
  rintro e w7 ⟨rfl, M7, h7, g7⟩
  have L6 := Lib.hid (L6.out.gr O1.out g7).1
  have H2A := Lib.hid (H2.out.aside H1.out A12.out.symm g7)
  have H1 := Lib.hid h7
  have Hfb : Hid (M7.fb = M1.fb) := Lib.hid g7.fb
  clear h7 g7 H2 O1 A12
  go_wp2_with fail
  refine (H2A.out.1.crash HK.out 0 0 (by omega) (by omega)).mono ?_
  rintro e w8 ⟨rfl, M8, h8, g8⟩
  have L6 := Lib.hid (L6.out.gr O2.out g8).1
  have H1A := Lib.hid (H1.out.aside H2A.out.1 H2A.out.2.symm g8)
  have H2 := Lib.hid h8
  have Hgb : Hid (M8.fb = M2.fb) := Lib.hid g8.fb
  clear h8 g8 H1 O2
  have H1 := Lib.hid H1A.out.1
  clear H1A H2A
  rw [← Hfb.out, ← Hgb.out]
  clear Hfb Hgb
  go_wp2_with fail
  refine (H1.out.files HK.out).mono ?_
  rintro e w9 ⟨A9, c9, rfl, L9, b9⟩
  have O9 := Lib.hid (H1.out.up.at_.off w9.heap.size)
  have L6 := Lib.hid (L6.out.below b9)
  have H1 := Lib.hid (H1.out.low b9)
  have H2 := Lib.hid (H2.out.low b9)
  have L9 := Lib.hid L9
  clear b9
  go_wp2_with fail
  refine (H1.out.durable HK.out).mono ?_
  rintro e w10 ⟨A10, c10, rfl, L10, b10⟩
  have L6 := Lib.hid (L6.out.below b10)
  have L9 := Lib.hid (L9.out.below b10)
  have H1 := Lib.hid (H1.out.low b10)
  have H2 := Lib.hid (H2.out.low b10)
  have L10 := Lib.hid L10
  clear b10
  go_wp2_with fail
  refine (L9.out.sameE L10.out E1.out).mono ?_
  rintro e w11 ⟨rfl, b11⟩
  have L6 := Lib.hid (L6.out.below b11)
  have L9 := Lib.hid (L9.out.below b11)
  have H1 := Lib.hid (H1.out.low b11)
  have H2 := Lib.hid (H2.out.low b11)
  clear b11 L10
  go_wp2_with fail
  refine (H2.out.files HK.out).mono ?_
  rintro e w12 ⟨A12, c12, rfl, L12, b12⟩
  have L6 := Lib.hid (L6.out.below b12)
  have L9 := Lib.hid (L9.out.below b12)
  have H1 := Lib.hid (H1.out.low b12)
  have L12 := Lib.hid L12
  clear b12 H2
  go_wp2_with fail
  refine (L12.out.sameE L6.out E2.out).mono ?_
  rintro e w13 ⟨rfl, b13⟩
  have L6 := Lib.hid (L6.out.below b13)
  have L9 := Lib.hid (L9.out.below b13)
  have H1 := Lib.hid (H1.out.low b13)
  clear b13 L12
  go_wp2_with fail
  refine H1.out.down_any.mono ?_
  rintro e w14 ⟨rfl, rfl⟩
  rw [show (S.crash n y).down = false from rfl]
  obtain ⟨N, hN⟩ : ∃ N, N = (S.crash n y).filesL := ⟨_, rfl⟩
  obtain ⟨D, hD⟩ : ∃ D, D = S.durL := ⟨_, rfl⟩
  rw [← hN] at L9 E3 E4 ⊢
  rw [← hD] at L6 E4 ⊢
  have HN := Lib.hid hN
  clear hN hD E1 E2
  -- the end, from any world behind
  have Hlast : Hid (∀ wx, Below w14.heap.size w14 wx → Held (wt l) w2 wx M7 (S.crash n y) ∧ (∃ lo hi, Lst lo hi wx A9 c9 N ∧ Off M7 lo hi)) := Lib.hid fun wx hb => ⟨H1.out.low hb, _, _, L9.out.below hb, O9.out⟩
  by_cases hn0 : n ≤ 0
  · have E4 := Lib.hid (E4.out hn0)
    have hlen : (N.length : Int) = D.length := by have := E4.out.1; omega
    have hlb : ((N.length : Int) != D.length) = false := by rw [hlen]; simp
    have hN9 : N.length ≤ 9223372036854775807 := by have h1 := L9.out.at_.le; have h2 := L9.out.at_.big; unfold maxLen at h2; omega
    have hD9 : D.length ≤ 9223372036854775807 := by have h1 := E4.out.1; omega
    go_wp2_with fail
    go_loopw [19] (fun iv wr => KeRel N.length w14 iv wr) (fun iv _ => N.length - (intOf iv).toNat)
    case atStart => exact ⟨0, by omega, rfl, 0, rfl⟩
    case round =>
      obtain ⟨k, hk, rfl, hwr⟩ := hrel
      by_cases hlt : k < N.length
      · have hlt2 : k < D.length := by omega
        have hk1 : (k : Int) < N.length := by omega
        have hk2 : (k : Int) < D.length := by omega
        have hbw : Below w14.heap.size w14 wr := by obtain ⟨m, rfl⟩ := hwr; exact below_drewN _ _
        have Hwd : Hid (∀ m, ∃ n, wr.drewN m = w14.drewN n) := Lib.hid fun m => by obtain ⟨n, rfl⟩ := hwr; exact ⟨_, World.drewN_drewN _ _ _⟩
        obtain ⟨b1, o1, B1, d1, hA1, g1, g1', hb1⟩ := (L9.out.below hbw).at_.at_ hlt
        obtain ⟨b2, o2, B2, d2, hA2, g2, g2', hb2⟩ := (L6.out.below hbw).at_.at_ hlt2
        subst hA1 hA2
        obtain ⟨e1, e2, e3, e4⟩ := E4.out.2 k hlt2
        generalize N.getD k noFl = x at *
        generalize D.getD k noFl = z at *
        obtain ⟨xs, xd⟩ := x
        obtain ⟨zs, zd⟩ := z
        simp only at e1 e2 e3 e4 g1 g1' hb1 g2 g2' hb2
        subst e1
        have hf := hb1.front zd.length
        rw [e4] at hf
        have hs := fun m => same_any zd zd B1 B2 d1 d2 (wr.drewN m) (hf.keep fun _ _ h => h) (hb2.keep fun _ _ h => h)
        rw [show (zd == zd) = true from BEq.rfl] at hs
        have hcap : zd.length ≤ d1 := hf.le
        have hcut := slice_hiU B1 xd.length d1 zd.length hcap
        have hlen2 : ¬ (xd.length : Int) < zd.length := by omega
        have hlen3 : zd.length ≤ xd.length := by omega
        have hlen4 : ¬ xd.length < zd.length := by omega
        have hmax : ¬ max y 0 < (xd.length : Int) - zd.length := by omega
        have hxl : xd.length ≤ 9223372036854775807 := by have h1 := hb1.le; have h2 := hb1.big; unfold maxLen at h2; omega
        have hzl : zd.length ≤ 9223372036854775807 := by omega
        have r1 : IntKind.i64.wrap ((xd.length : Int) - zd.length) = (xd.length : Int) - zd.length := by rw [IntKind.wrap_i64]; omega
        have r2 : wrap64 ((xd.length : Int) - zd.length) = (xd.length : Int) - zd.length := by unfold wrap64; omega
        clear e2 e3 e4 hb1 hb2 hf hwr hbw hcap
        go_wp2_with fail
        go_quiet ((go_at_call 25; with_reducible exact Calls.quiet_of (hs _)))
        go_wp2
        go_roundw
        case rel => exact ⟨k + 1, by omega, by go_num, Hwd.out _⟩
        case measure => simp [intOf]; omega
      · have hkn : ¬ (k : Int) < N.length := by omega
        have BW : Below w14.heap.size w14 wr := by obtain ⟨m, rfl⟩ := hwr; exact below_drewN _ _
        clear hwr
        obtain ⟨h1, lo, hi, h9, o9⟩ := Hlast.out wr BW
        have H1 := Lib.hid h1
        have L9 := Lib.hid h9
        have O9 := Lib.hid o9
        clear h1 h9 o9
        go_wp2_with fail
        refine (H1.out.crash HK.out g g hg hg).mono ?_
        rintro e w15 ⟨rfl, M15, h15, g15⟩
        have L9 := Lib.hid (L9.out.gr O9.out g15).1
        have H1 := Lib.hid h15
        rw [← g15.fb]
        clear h15 g15
        go_wp2_with fail
        refine (H1.out.files HK.out).mono ?_
        rintro e w16 ⟨A16, c16, rfl, L16, b16⟩
        have L9 := Lib.hid (L9.out.below b16)
        have H1 := Lib.hid (H1.out.low b16)
        have L16 := Lib.hid L16
        clear b16
        go_wp2_with fail
        refine (L16.out.sameE L9.out E3.out).mono ?_
        rintro e w17 ⟨rfl, b17⟩
        have H1 := Lib.hid (H1.out.low b17)
        have Hend : Hid (P (.returned (.bool true)) w17) := Lib.hid (by rw [HP.out]; exact ⟨rfl, Hb2.out.trans (H1.out.below.mono Hb2.out.size)⟩)
        clear b17
        go_wp2_with fail
        exact Hend.out
  · obtain ⟨h1, lo, hi, h9, o9⟩ := Hlast.out w14 (Below.refl _ _)
    have H1 := Lib.hid h1
    have L9 := Lib.hid h9
    have O9 := Lib.hid o9
    clear h1 h9 o9
    go_wp2_with fail
    refine (H1.out.crash HK.out g g hg hg).mono ?_
    rintro e w15 ⟨rfl, M15, h15, g15⟩
    have L9 := Lib.hid (L9.out.gr O9.out g15).1
    have H1 := Lib.hid h15
    rw [← g15.fb]
    clear h15 g15
    go_wp2_with fail
    refine (H1.out.files HK.out).mono ?_
    rintro e w16 ⟨A16, c16, rfl, L16, b16⟩
    have L9 := Lib.hid (L9.out.below b16)
    have H1 := Lib.hid (H1.out.low b16)
    have L16 := Lib.hid L16
    clear b16
    go_wp2_with fail
    refine (L16.out.sameE L9.out E3.out).mono ?_
    rintro e w17 ⟨rfl, b17⟩
    have H1 := Lib.hid (H1.out.low b17)
    have Hend : Hid (P (.returned (.bool true)) w17) := Lib.hid (by rw [HP.out]; exact ⟨rfl, Hb2.out.trans (H1.out.below.mono Hb2.out.size)⟩)
    clear b17
    go_wp2_with fail
    exact Hend.out
end Go.Proofs.YtaolddgnannojaaDoor
