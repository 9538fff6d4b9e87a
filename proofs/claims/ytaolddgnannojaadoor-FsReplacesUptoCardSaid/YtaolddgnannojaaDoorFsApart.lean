/-
  FsApart: the walk.
-/
import Derived.Test.YtaolddgnannojaaDoorFsLst
namespace Go.Proofs.YtaolddgnannojaaDoor
open Go.RowKit Go.Maps

attribute [local go_sem] lt1 lt2 lt3 lt4 lt5 lt6

theorem OpAt.low {w w' : World} {A : Option Addr} {cap : Nat} {l : List OpC} (h : OpAt w A cap l) (hb : Below w.heap.size w w') : OpAt w' A cap l := h.keep (Cells.of_below hb)
def FewB (w : World) (e : Ending) (w' : World) : Prop := ∃ r : Bool, e = .returned (.bool r) ∧ Below w.heap.size w w'
theorem few_low (w : World) (A : Option Addr) (c : Nat) (l : List OpC) (h : OpAt w A c l) : Calls Tryd.prog 15 #[.slice A l.length c] w (FewB w) :=
  (few_any w A c l h).mono fun _ _ ⟨r, he, n, hw⟩ => ⟨r, he, by rw [hw]; exact ⟨rfl, rfl, rfl, Nat.le_refl _, fun _ _ => rfl⟩⟩
theorem Held.size_any {K : Nat} {w0 w : World} {M : FsMem} {S : FsSt} (h : Held K w0 w M S) : Calls Tryd.prog 31 #[.pointer (some ⟨M.fb, 0, none⟩)] w fun e w' => e = .returned (.int .i64 S.size) ∧ w' = w := Go.Proofs.YtaolddgnannojaaDoor.size_any w M S h.up.at_
theorem Held.steps_any {K : Nat} {w0 w : World} {M : FsMem} {S : FsSt} (h : Held K w0 w M S) : Calls Tryd.prog 28 #[.pointer (some ⟨M.fb, 0, none⟩)] w fun e w' => e = .returned (.int .i64 (S.steps : Nat)) ∧ w' = w := Go.Proofs.YtaolddgnannojaaDoor.steps_any w M S h.up.at_
theorem Held.down_any {K : Nat} {w0 w : World} {M : FsMem} {S : FsSt} (h : Held K w0 w M S) : Calls Tryd.prog 32 #[.pointer (some ⟨M.fb, 0, none⟩)] w fun e w' => e = .returned (.bool S.down) ∧ w' = w := Go.Proofs.YtaolddgnannojaaDoor.down_any w M S h.up.at_
/-- the end of a law -/
def LawPost (w : World) (e : Ending) (w' : World) : Prop := e = .returned (.bool true) ∧ Below w.heap.size w w'
/-- the copy goes on -/
def ApRel1 (w0 : World) (K : Nat) (S : FsSt) (m : List OpC) (M1 M3 : FsMem) (fb : Nat) (iv : Value) (wr : World) : Prop :=
  ∃ (k : Nat) (M : FsMem), k ≤ m.length ∧ iv = .int .i64 k ∧ M.fb = fb ∧ Held (K + wt (m.take k)) w0 wr M (S.tells (m.take k)) ∧ (Held K w0 wr M1 S ∧ Held K w0 wr M3 S) ∧ (Apart2 M1 M ∧ Apart2 M3 M) ∧ Apart2 M1 M3
/-- what it was copied from goes on -/
def ApRel2 (w0 : World) (K : Nat) (S : FsSt) (m : List OpC) (M2 : FsMem) (fb : Nat) (iv : Value) (wr : World) : Prop :=
  ∃ (k : Nat) (M : FsMem), k ≤ m.length ∧ iv = .int .i64 k ∧ M.fb = fb ∧ Held (K + wt (m.take k)) w0 wr M (S.tells (m.take k)) ∧ Held (K + wt m) w0 wr M2 (S.tells m) ∧ Apart2 M2 M
set_option maxHeartbeats 8000000 in
set_option maxRecDepth 100000 in
theorem apart_law (w : World) (hm : MaxL w) (q : Int) (A A' : Option Addr) (c c' : Nat) (l m : List OpC) (hl : OpAt w A c l) (hl' : OpAt w A' c' m) (hK : wt l + wt m ≤ 1048576) :
    Calls Tryd.prog 8 #[.int .i64 q, .slice A l.length c, .slice A' m.length c'] w (LawPost w) := by
  obtain ⟨P, hP⟩ : ∃ P, P = LawPost w := ⟨_, rfl⟩
  rw [← hP]
  have HP := Lib.hid hP
  have HM := Lib.hid hm
  have HL := Lib.hid hl
  have HL' := Lib.hid hl'
  have HK := Lib.hid hK
  have hlen := hl'.len
  clear hP hm hl hl' hK
  go_enter Tryd.func8, Tryd.ntmps8
  go_wp2_with fail
  refine (first_any w HM.out).mono ?_
  rintro e w1 ⟨rfl, hb1⟩
  have Hb1 := Lib.hid hb1
  clear hb1
  go_wp2_with fail
  refine (few_low w1 A c l (HL.out.low Hb1.out)).mono ?_
  rintro e w2 ⟨r1, rfl, hb2⟩
  have Hb2 := Lib.hid (Hb1.out.trans (hb2.mono Hb1.out.size))
  clear hb2
  cases r1
  · have Hend : Hid (P (.returned (.bool true)) w2) := Lib.hid (by rw [HP.out]; exact ⟨rfl, Hb2.out⟩)
    go_wp2_with fail
    exact Hend.out
  go_wp2_with fail
  refine (few_low w2 A' c' m (HL'.out.low Hb2.out)).mono ?_
  rintro e w3 ⟨r2, rfl, hb3⟩
  have Hb3 := Lib.hid (Hb2.out.trans (hb3.mono Hb2.out.size))
  clear hb3
  cases r2
  · have Hend : Hid (P (.returned (.bool true)) w3) := Lib.hid (by rw [HP.out]; exact ⟨rfl, Hb3.out⟩)
    go_wp2_with fail
    exact Hend.out
  have HL3 := Lib.hid (HL.out.low Hb3.out)
  have HL3' := Lib.hid (HL'.out.low Hb3.out)
  have HM3 := Lib.hid (HM.out.below Hb3.out)
  clear HL HL' HM Hb1 Hb2 w1 w2
  go_wp2_with fail
  refine (made_any w3 HM3.out q A c l HL3.out (by have := HK.out; omega)).mono ?_
  rintro e w4 ⟨M1, rfl, h1, hb, ho⟩
  have H1 : Hid (Held (wt l) w3 w4 M1 ((newS q).tells l)) := Lib.hid ⟨h1, hb, ho⟩
  clear h1 hb ho
  go_wp2_with fail
  refine (H1.out.copy (by have := HK.out; omega)).mono ?_
  rintro e w5 ⟨M2, rfl, h2, h1, a12, hb, ho⟩
  have H1b := Lib.hid h1
  have H2 := Lib.hid h2
  have A12 := Lib.hid a12
  clear h1 h2 a12 hb ho H1 w4
  go_wp2_with fail
  refine (made_any w5 H1b.out.up.ml q A c l (HL3.out.low H1b.out.below) (by have := HK.out; omega)).mono ?_
  rintro e w6 hn
  obtain ⟨M3, rfl, h3, h1, a13, hb, ho⟩ := H1b.out.beside hn
  have H2b := Lib.hid (H2.out.low hb)
  have A23 : Hid (Apart2 M3 M2) := Lib.hid fun k hk hh => by
    have h8 := H2.out.up.at_.lt k hk
    have h9 := ho k hh
    omega
  have Hrel0 : Hid (ApRel1 w3 (wt l) ((newS q).tells l) m M1 M3 M2.fb (.int .i64 0) w6) := Lib.hid ⟨0, M2, by omega, rfl, rfl, H2b.out.mono (Nat.le_add_right _ _), ⟨h1, h3⟩, ⟨A12.out, A23.out⟩, a13⟩
  generalize (newS q).tells l = S at *
  generalize M2.fb = fb2 at *
  clear hn h3 h1 a13 hb ho H2b A23 H1b H2 A12
  go_wp2_with fail
  go_loopw [12] (fun iv wr => ApRel1 w3 (wt l) S m M1 M3 fb2 iv wr) (fun iv _ => m.length - (intOf iv).toNat)
  case atStart => exact Hrel0.out
  case round =>
    clear Hrel0
    obtain ⟨k, M2, hk, rfl, hfb, h2, ⟨h1, h3⟩, ⟨a12, a32⟩, a13⟩ := hrel
    have H2 := Lib.hid h2
    have Hfb := Lib.hid hfb
    have H1 := Lib.hid h1
    have H3 := Lib.hid h3
    have AA := Lib.hid (And.intro a12 (And.intro a32 a13))
    clear h2 hfb h1 h3 a12 a32 a13
    by_cases hlt : k < m.length
    · obtain ⟨b, o, B, cB, rfl, hok, hbs, ⟨q0, q1, q2⟩, q3, q4, q5⟩ := HL3'.out.later H2.out.below hlt
      have hw := wt_take hlt
      have ht := tells_take (S := S) hlt
      have hwl := wt_le m (k + 1)
      have Hc := Lib.hid (H2.out.told (m.getD k noOp) hok (by have := HK.out; omega) hbs)
      have Hnx : Hid (∀ (M' : FsMem) (wx : World), Held (wt l + wt (m.take k) + (2 + (m.getD k noOp).b.length)) w3 wx M' ((S.tells (m.take k)).told (m.getD k noOp)).2 → Gr M2 wr M' wx → ApRel1 w3 (wt l) S m M1 M3 fb2 (.int .i64 ((k : Int) + 1)) wx) :=
        Lib.hid fun M' wx h1 h2 => by
          obtain ⟨h5, a5⟩ := H1.out.aside H2.out AA.out.1 h2
          obtain ⟨h6, a6⟩ := H3.out.aside H2.out AA.out.2.1 h2
          exact ⟨k + 1, M', by omega, by simp, by rw [h2.fb]; exact Hfb.out, by rw [hw, ht, ← Nat.add_assoc]; exact h1, ⟨h5, h6⟩, ⟨a5, a6⟩, AA.out.2.2⟩
      rw [Hfb.out] at Hc
      clear hw ht hwl hok hbs H1 H2 H3 AA
      unfold opCells at Hc
      generalize m.getD k noOp = op at *
      go_wp2_with fail
      refine Hc.out.mono ?_
      rintro e w7 ⟨rfl, M7, h7, g7⟩
      have Hfin := Lib.hid (Hnx.out M7 w7 h7 g7)
      clear h7 g7
      go_wp2_with fail
      go_roundw
      case rel => exact Hfin.out
      case measure => simp [intOf]; omega
    · obtain rfl : k = m.length := by omega
      have H2 : Hid (Held (wt l + wt m) w3 wr M2 (S.tells m)) := Lib.hid (by
        have := H2.out
        rwa [List.take_length] at this)
      have hk1 : wt l ≤ 1048576 := by have := HK.out; omega
      go_wp2_with fail
      refine (H1.out.files hk1).mono ?_
      rintro e w7 ⟨A7, c7, rfl, L7, b7⟩
      have H1 := Lib.hid (H1.out.low b7)
      have H3 := Lib.hid (H3.out.low b7)
      have H2 := Lib.hid (H2.out.low b7)
      have L7 := Lib.hid L7
      clear b7
      go_wp2_with fail
      refine (H3.out.files hk1).mono ?_
      rintro e w8 ⟨A8, c8, rfl, L8, b8⟩
      have L7 := Lib.hid (L7.out.below b8)
      have H1 := Lib.hid (H1.out.low b8)
      have H3 := Lib.hid (H3.out.low b8)
      have H2 := Lib.hid (H2.out.low b8)
      have L8 := Lib.hid L8
      clear b8
      go_wp2_with fail
      refine (L7.out.sameT L8.out).mono ?_
      rintro e w9 ⟨rfl, b9⟩
      have H1 := Lib.hid (H1.out.low b9)
      have H3 := Lib.hid (H3.out.low b9)
      have H2 := Lib.hid (H2.out.low b9)
      clear b9 L7 L8
      go_wp2_with fail
      refine (H1.out.durable hk1).mono ?_
      rintro e w10 ⟨A7, c7, rfl, L7, b7⟩
      have H1 := Lib.hid (H1.out.low b7)
      have H3 := Lib.hid (H3.out.low b7)
      have H2 := Lib.hid (H2.out.low b7)
      have L7 := Lib.hid L7
      clear b7
      go_wp2_with fail
      refine (H3.out.durable hk1).mono ?_
      rintro e w11 ⟨A8, c8, rfl, L8, b8⟩
      have L7 := Lib.hid (L7.out.below b8)
      have H1 := Lib.hid (H1.out.low b8)
      have H2 := Lib.hid (H2.out.low b8)
      have L8 := Lib.hid L8
      clear b8
      go_wp2_with fail
      refine (L7.out.sameT L8.out).mono ?_
      rintro e w12 ⟨rfl, b9⟩
      have H1 := Lib.hid (H1.out.low b9)
      have H2 := Lib.hid (H2.out.low b9)
      clear b9 L7 L8
      have Hrel0 : Hid (ApRel2 w3 (wt l) S m M2 M1.fb (.int .i64 0) w12) := Lib.hid ⟨0, M1, by omega, rfl, rfl, H1.out.mono (Nat.le_add_right _ _), H2.out, AA.out.1.symm⟩
      have hfb2 := Hfb.out
      generalize M1.fb = fb1 at *
      clear H1 H2 AA H3 hk1 hk hlt
      have Hfb2 := Lib.hid hfb2
      clear hfb2 Hfb
      go_wp2_with fail
      go_loopw [14] (fun iv wr => ApRel2 w3 (wt l) S m M2 fb1 iv wr) (fun iv _ => m.length - (intOf iv).toNat)
      case atStart => exact Hrel0.out
      case round =>
        clear Hrel0
        obtain ⟨k, M1, hk, rfl, hfb, h1, h2, a21⟩ := hrel
        have H1 := Lib.hid h1
        have Hfb := Lib.hid hfb
        have H2 := Lib.hid h2
        have AA := Lib.hid a21
        clear h2 hfb h1 a21
        by_cases hlt : k < m.length
        · obtain ⟨b, o, B, cB, rfl, hok, hbs, ⟨q0, q1, q2⟩, q3, q4, q5⟩ := HL3'.out.later H1.out.below hlt
          have hw := wt_take hlt
          have ht := tells_take (S := S) hlt
          have hwl := wt_le m (k + 1)
          have Hc := Lib.hid (H1.out.told (m.getD k noOp) hok (by have := HK.out; omega) hbs)
          have Hnx : Hid (∀ (M' : FsMem) (wx : World), Held (wt l + wt (m.take k) + (2 + (m.getD k noOp).b.length)) w3 wx M' ((S.tells (m.take k)).told (m.getD k noOp)).2 → Gr M1 wr M' wx → ApRel2 w3 (wt l) S m M2 fb1 (.int .i64 ((k : Int) + 1)) wx) :=
            Lib.hid fun M' wx h1 h2 => by
              obtain ⟨h5, a5⟩ := H2.out.aside H1.out AA.out h2
              exact ⟨k + 1, M', by omega, by simp, by rw [h2.fb]; exact Hfb.out, by rw [hw, ht, ← Nat.add_assoc]; exact h1, h5, a5⟩
          rw [Hfb.out] at Hc
          clear hw ht hwl hok hbs H1 H2 AA
          unfold opCells at Hc
          generalize m.getD k noOp = op at *
          go_wp2_with fail
          refine Hc.out.mono ?_
          rintro e w7 ⟨rfl, M7, h7, g7⟩
          have Hfin := Lib.hid (Hnx.out M7 w7 h7 g7)
          clear h7 g7
          go_wp2_with fail
          go_roundw
          case rel => exact Hfin.out
          case measure => simp [intOf]; omega
        · obtain rfl : k = m.length := by omega
          have H1 : Hid (Held (wt l + wt m) w3 wr M1 (S.tells m)) := Lib.hid (by
            have := H1.out
            rwa [List.take_length] at this)
          have hk1 : wt l + wt m ≤ 1048576 := HK.out
          obtain rfl := Hfb.out
          obtain rfl := Hfb2.out
          go_wp2_with fail
          refine (H1.out.files hk1).mono ?_
          rintro e w7 ⟨A7, c7, rfl, L7, b7⟩
          have H1 := Lib.hid (H1.out.low b7)
          have H2 := Lib.hid (H2.out.low b7)
          have L7 := Lib.hid L7
          clear b7
          go_wp2_with fail
          refine (H2.out.files hk1).mono ?_
          rintro e w8 ⟨A8, c8, rfl, L8, b8⟩
          have L7 := Lib.hid (L7.out.below b8)
          have H1 := Lib.hid (H1.out.low b8)
          have H2 := Lib.hid (H2.out.low b8)
          have L8 := Lib.hid L8
          clear b8
          go_wp2_with fail
          refine (L7.out.sameT L8.out).mono ?_
          rintro e w9 ⟨rfl, b9⟩
          have H1 := Lib.hid (H1.out.low b9)
          have H2 := Lib.hid (H2.out.low b9)
          clear b9 L7 L8
          go_wp2_with fail
          refine (H1.out.durable hk1).mono ?_
          rintro e w10 ⟨A7, c7, rfl, L7, b7⟩
          have H1 := Lib.hid (H1.out.low b7)
          have H2 := Lib.hid (H2.out.low b7)
          have L7 := Lib.hid L7
          clear b7
          go_wp2_with fail
          refine (H2.out.durable hk1).mono ?_
          rintro e w11 ⟨A8, c8, rfl, L8, b8⟩
          have L7 := Lib.hid (L7.out.below b8)
          have H1 := Lib.hid (H1.out.low b8)
          have H2 := Lib.hid (H2.out.low b8)
          have L8 := Lib.hid L8
          clear b8
          go_wp2_with fail
          refine (L7.out.sameT L8.out).mono ?_
          rintro e w12 ⟨rfl, b9⟩
          have H1 := Lib.hid (H1.out.low b9)
          have H2 := Lib.hid (H2.out.low b9)
          clear b9 L7 L8
          go_wp2_with fail
          refine H1.out.steps_any.mono ?_
          rintro e w13 ⟨rfl, rfl⟩
          go_wp2_with fail
          refine H2.out.steps_any.mono ?_
          rintro e w14 ⟨rfl, rfl⟩
          have Hend : Hid (P (.returned (.bool true)) w14) := Lib.hid (by rw [HP.out]; exact ⟨rfl, Hb3.out.trans (H1.out.below.mono Hb3.out.size)⟩)
          go_wp2_with fail
          exact Hend.out
end Go.Proofs.YtaolddgnannojaaDoor
