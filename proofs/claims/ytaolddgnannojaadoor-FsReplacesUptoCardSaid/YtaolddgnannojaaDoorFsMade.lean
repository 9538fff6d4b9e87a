/-
  made: a file system behind operations.
-/
import Derived.Test.YtaolddgnannojaaDoorFsFew
namespace Go.Proofs.YtaolddgnannojaaDoor
open Go.RowKit Go.Maps

attribute [local go_sem] lt1 lt2 lt3 lt4 lt5 lt6

/-- an operation of the slice, in a world behind -/
theorem OpAt.later {w wr : World} {A : Option Addr} {cap : Nat} {l : List OpC} (h : OpAt w A cap l) (hb : Below w.heap.size w wr) {k : Nat} (hk : k < l.length) : ∃ b o B c, A = some ⟨b, o, none⟩ ∧ OpOk (l.getD k noOp) ∧ Bs w B c (l.getD k noOp).b ∧
    (wr.cell? ⟨b, o + k * 6, none⟩ = some (.int .i64 (l.getD k noOp).kind) ∧ wr.cell? ⟨b, o + k * 6 + 1, none⟩ = some (.int .i64 (l.getD k noOp).n) ∧ wr.cell? ⟨b, o + k * 6 + 2, none⟩ = some (.int .i64 (l.getD k noOp).m)) ∧
    wr.cell? ⟨b, o + k * 6 + 3, none⟩ = some (.string (l.getD k noOp).name) ∧ wr.cell? ⟨b, o + k * 6 + 4, none⟩ = some (.string (l.getD k noOp).to) ∧ wr.cell? ⟨b, o + k * 6 + 5, none⟩ = some (.slice B (l.getD k noOp).b.length c) := by
  obtain ⟨b, o, B, c, h1, h2, h3, ⟨q0, q1, q2⟩, q3, q4, q5⟩ := h.at_ hk
  have hc := Cells.of_below hb
  exact ⟨b, o, B, c, h1, h2, h3, ⟨hc _ _ q0, hc _ _ q1, hc _ _ q2⟩, hc _ _ q3, hc _ _ q4, hc _ _ q5⟩
def MadeRel (w : World) (q : Int) (l : List OpC) (fb : Nat) (iv : Value) (wr : World) : Prop :=
  ∃ (k : Nat) (M : FsMem), k ≤ l.length ∧ iv = .int .i64 k ∧ M.fb = fb ∧ Held (wt (l.take k)) w wr M ((newS q).tells (l.take k))
set_option maxHeartbeats 4000000 in
set_option maxRecDepth 100000 in
theorem made_any (w : World) (hm : MaxL w) (q : Int) (A : Option Addr) (c : Nat) (l : List OpC) (hl : OpAt w A c l) (hK : wt l ≤ 1048576) :
    Calls Tryd.prog 17 #[.int .i64 q, .slice A l.length c] w (NewUp (wt l) w ((newS q).tells l)) := by
  obtain ⟨P, hP⟩ : ∃ P, P = NewUp (wt l) w ((newS q).tells l) := ⟨_, rfl⟩
  rw [← hP]
  have HP := Lib.hid hP
  have hlen := hl.len
  have HM := Lib.hid hm
  have HL := Lib.hid hl
  have HK := Lib.hid hK
  clear hP hm hl hK
  go_enter Tryd.func17, Tryd.ntmps17
  go_wp2_with fail
  refine (up_new w HM.out q).mono ?_
  rintro e w1 ⟨M, rfl, h1, hb1, ho1⟩
  have Hrel0 : Hid (MadeRel w q l M.fb (.int .i64 0) w1) := Lib.hid ⟨0, M, by omega, rfl, rfl, ⟨h1.mono (Nat.zero_le _), hb1, ho1⟩⟩
  generalize M.fb = fb at *
  clear h1 hb1 ho1
  go_wp2_with fail
  go_loopw [6] (fun iv wr => MadeRel w q l fb iv wr) (fun iv _ => l.length - (intOf iv).toNat)
  case atStart => exact Hrel0.out
  case round =>
    clear Hrel0
    obtain ⟨k, M, hk, rfl, hfb, hh⟩ := hrel
    have Hh := Lib.hid hh
    have Hfb := Lib.hid hfb
    clear hh hfb
    by_cases hlt : k < l.length
    · obtain ⟨b, o, B, cB, rfl, hok, hbs, ⟨q0, q1, q2⟩, q3, q4, q5⟩ := HL.out.later Hh.out.below hlt
      have hw := wt_take hlt
      have ht := tells_take (S := newS q) hlt
      have hwl := wt_le l (k + 1)
      have Hc := Lib.hid (Hh.out.told (l.getD k noOp) hok (by have := HK.out; omega) hbs)
      have Hnx : Hid (∀ (M' : FsMem) (wx : World), Held (wt (l.take k) + (2 + (l.getD k noOp).b.length)) w wx M' (((newS q).tells (l.take k)).told (l.getD k noOp)).2 → Gr M wr M' wx → MadeRel w q l fb (.int .i64 ((k : Int) + 1)) wx) :=
        Lib.hid fun M' wx h1 h2 => ⟨k + 1, M', by omega, by simp, by rw [h2.fb]; exact Hfb.out, by rw [hw, ht]; exact h1⟩
      rw [Hfb.out] at Hc
      clear hw ht hwl hok hbs Hh
      unfold opCells at Hc
      generalize l.getD k noOp = op at *
      go_wp2_with fail
      refine Hc.out.mono ?_
      rintro e w2 ⟨rfl, M2, h2, g2⟩
      have Hfin := Lib.hid (Hnx.out M2 w2 h2 g2)
      clear h2 g2
      go_wp2_with fail
      go_roundw
      case rel => exact Hfin.out
      case measure => simp [intOf]; omega
    · obtain rfl : k = l.length := by omega
      have Hend : Hid (P (.returned (.pointer (some ⟨fb, 0, none⟩))) wr) := Lib.hid (by
        rw [HP.out]
        refine ⟨M, by rw [Hfb.out], ?_, Hh.out.below, Hh.out.own⟩
        have := Hh.out.up
        rwa [List.take_length] at this)
      clear Hh
      go_wp2_with fail
      exact Hend.out
end Go.Proofs.YtaolddgnannojaaDoor
