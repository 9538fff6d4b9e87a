/-
  FsArmed: the walk.
-/
import Derived.Test.YtaolddgnannojaaDoorFsRefused
namespace Go.Proofs.YtaolddgnannojaaDoor
open Go.RowKit Go.Maps

attribute [local go_sem] lt1 lt2 lt3 lt4 lt5 lt6

/-- one operation of both: alike, or it was the one that fails -/
theorem armed_round {S : FsSt} {N : Nat} (hA : S.armed = 0) (hD : S.down = false) (hN : S.steps < N) (o : OpC) (hk : o.kind ≤ 5) :
    ((S.told o).1 = (({ S with armed := N - S.steps } : FsSt).told o).1 ∧ (S.told o).2.armed = 0 ∧ (S.told o).2.down = false ∧ (S.told o).2.steps < N ∧ (({ S with armed := N - S.steps } : FsSt).told o).2 = { (S.told o).2 with armed := N - (S.told o).2.steps }) ∨
      ((S.told o).2.steps = N ∧ (({ S with armed := N - S.steps } : FsSt).told o).1 = 5 ∧ (({ S with armed := N - S.steps } : FsSt).told o).2.down = true ∧ (({ S with armed := N - S.steps } : FsSt).told o).2.filesL = S.filesL ∧ (S.told o).2.down = false) := by
  rcases told_lock S (N - S.steps) o hk with (⟨e, h1, h2, _⟩ | ⟨S2, h1, h2, h3, h4, h5⟩) | ⟨h1, h2⟩
  · left
    rw [h1, h2]
    exact ⟨rfl, hA, hD, hN, rfl⟩
  · have hw : S.wrErr = 0 := by unfold FsSt.wrErr; rw [hA]; rfl
    have hw2 : S.wrote S2 = S2.stepped := by unfold FsSt.wrote; rw [hA]; rfl
    rw [h1, h2, hw, hw2]
    by_cases h9 : N - S.steps = 1
    · right
      have hx : ({ S with armed := N - S.steps } : FsSt).wrErr = 5 := by unfold FsSt.wrErr; exact if_pos h9
      have hy : ({ S with armed := N - S.steps } : FsSt).wrote { S2 with armed := N - S.steps - 1 } = ({ S with armed := N - S.steps } : FsSt).fails := by unfold FsSt.wrote; exact if_pos h9
      rw [hx, hy]
      refine ⟨?_, rfl, rfl, rfl, ?_⟩
      · show S2.steps + 1 = N
        omega
      · show S2.down = false
        rw [h4, hD]
    · left
      have hx : ({ S with armed := N - S.steps } : FsSt).wrErr = 0 := by unfold FsSt.wrErr; exact if_neg h9
      have hy : ({ S with armed := N - S.steps } : FsSt).wrote { S2 with armed := N - S.steps - 1 } = ({ S2 with armed := N - S.steps - 1 } : FsSt).stepped := by unfold FsSt.wrote; exact if_neg h9
      rw [hx, hy]
      have h8 : N - S.steps - 1 = N - (S2.steps + 1) := by omega
      refine ⟨rfl, ?_, ?_, ?_, ?_⟩
      · show S2.armed = 0
        rw [h5, hA]
      · show S2.down = false
        rw [h4, hD]
      · show S2.steps + 1 < N
        omega
      · show ({ S2 with armed := N - S.steps - 1, steps := S2.steps + 1 } : FsSt) = { S2 with steps := S2.steps + 1, armed := N - (S2.steps + 1) }
        rw [h8]
  · left
    rw [h1, h2]
    exact ⟨rfl, hA, hD, hN, rfl⟩
def ArRelA (w0 : World) (l : List OpC) (N : Nat) (fb gb : Nat) (iv : Value) (wr : World) : Prop :=
  ∃ (k : Nat) (M1 M2 : FsMem) (S : FsSt), k ≤ l.length ∧ iv = .int .i64 k ∧ (M1.fb = fb ∧ M2.fb = gb) ∧ Held (wt (l.take k)) w0 wr M1 S ∧ Held (wt (l.take k)) w0 wr M2 { S with armed := N - S.steps } ∧ Apart2 M1 M2 ∧ S.armed = 0 ∧ S.down = false ∧ S.steps < N
set_option maxHeartbeats 8000000 in
set_option maxRecDepth 100000 in
theorem armed_law (w : World) (hm : MaxL w) (q : Int) (A : Option Addr) (c : Nat) (l : List OpC) (hl : OpAt w A c l) (hK : wt l ≤ 1048576) (n : Int) :
    Calls Tryd.prog 6 #[.int .i64 q, .slice A l.length c, .int .i64 n] w (LawPost w) := by
  obtain ⟨P, hP⟩ : ∃ P, P = LawPost w := ⟨_, rfl⟩
  rw [← hP]
  have HP := Lib.hid hP
  have HM := Lib.hid hm
  have HL := Lib.hid hl
  have HK := Lib.hid hK
  have hlen := hl.len
  clear hP hm hl hK
  go_enter Tryd.func6, Tryd.ntmps6
  go_wp2_with fail
  refine (first_any w HM.out).mono ?_
  rintro e w1 ⟨rfl, hb1⟩
  have Hb1 := Lib.hid hb1
  clear hb1
  go_wp2_with fail
  refine (few_low w1 A c l (HL.out.low Hb1.out)).mono ?_
  rintro e w2 ⟨r1, rfl, hb2⟩
  have Hb2 := Lib.hid (Hb1.out.trans (hb2.mono Hb1.out.size))
  clear hb2
  cases r1
  · have Hend : Hid (P (.returned (.bool true)) w2) := Lib.hid (by rw [HP.out]; exact ⟨rfl, Hb2.out⟩)
    go_wp2_with fail
    exact Hend.out
  have HL2 := Lib.hid (HL.out.low Hb2.out)
  have HM2 := Lib.hid (HM.out.below Hb2.out)
  clear HL HM Hb1 w1
  go_wp2_with fail
  refine (up_new w2 HM2.out q).mono ?_
  rintro e w3 ⟨M1, rfl, h1, hb, ho⟩
  have H1 : Hid (Held 0 w2 w3 M1 (newS q)) := Lib.hid ⟨h1, hb, ho⟩
  clear h1 hb ho
  go_wp2_with fail
  refine (up_new w3 H1.out.up.ml q).mono ?_
  rintro e w4 hn
  obtain ⟨M2, rfl, h2, h1, a12, hb, ho⟩ := H1.out.beside hn
  have H1 := Lib.hid h1
  have H2 := Lib.hid h2
  have A12 := Lib.hid a12
  clear hn h2 h1 a12 hb ho
  obtain ⟨N, hN, hN1, hN2⟩ : ∃ N : Nat, wrap64 ((wrap64 (n.tmod 20 + 20)).tmod 20 + 1) = (N : Int) ∧ 1 ≤ N ∧ N ≤ 20 := by
    have t1 := Int.tmod_lt_of_pos n (show (0 : Int) < 20 by decide)
    have t2 := Int.lt_tmod_of_pos n (show (0 : Int) < 20 by decide)
    have t3 : wrap64 (n.tmod 20 + 20) = n.tmod 20 + 20 := by unfold wrap64; omega
    rw [t3]
    have t4 := Int.tmod_lt_of_pos (n.tmod 20 + 20) (show (0 : Int) < 20 by decide)
    have t5 := Int.tmod_nonneg (a := n.tmod 20 + 20) 20 (by omega)
    have t6 : wrap64 ((n.tmod 20 + 20).tmod 20 + 1) = (n.tmod 20 + 20).tmod 20 + 1 := by unfold wrap64; omega
    exact ⟨((n.tmod 20 + 20).tmod 20 + 1).toNat, by rw [t6]; omega, by omega, by omega⟩
  go_wp2_with fail
  simp only [hN]
  refine (H2.out.arm (N : Int) (by omega)).mono ?_
  rintro e w5 ⟨rfl, M5, h5, g5⟩
  obtain ⟨h1, a15⟩ := H1.out.aside H2.out A12.out g5
  have Hrel0 : Hid (ArRelA w2 l N M1.fb M2.fb (.int .i64 0) w5) := Lib.hid ⟨0, M1, M5, newS q, by omega, rfl, ⟨rfl, g5.fb⟩, h1.mono (Nat.zero_le _), by
    have e1 : (max (N : Int) 0).toNat = N - (newS q).steps := by show _ = N - 0; omega
    rw [← e1]
    exact h5.mono (Nat.zero_le _), a15, rfl, rfl, by show 0 < N; omega⟩
  generalize M1.fb = fb at *
  generalize M2.fb = gb at *
  clear h5 g5 h1 a15 H1 H2 A12 hN hN1
  go_wp2_with fail
  go_loopw [11] (fun iv wr => ArRelA w2 l N fb gb iv wr) (fun iv _ => l.length - (intOf iv).toNat)
  case atStart => exact Hrel0.out
  case round =>
    clear Hrel0
    obtain ⟨k, M1, M2, S, hk, rfl, ⟨hfb, hgb⟩, hh, hg, ha12, hA, hD, hS⟩ := hrel
    have H1 := Lib.hid hh
    have H2 := Lib.hid hg
    have A12 := Lib.hid ha12
    have Hfb := Lib.hid hfb
    have Hgb := Lib.hid hgb
    clear hh hg ha12 hfb hgb
    by_cases hlt : k < l.length
    · obtain ⟨b, o, B, cB, rfl, hok, hbs, ⟨q0, q1, q2⟩, q3, q4, q5⟩ := HL2.out.at_ hlt
      have hw := wt_take hlt
      have hwl := wt_le l (k + 1)
      have hk1 : wt (l.take k) ≤ 1048576 := by have := HK.out; omega
      have hrd := fun h => armed_round hA hD hS (l.getD k noOp) h
      have Hc1 : Hid (∀ wx, Held (wt (l.take k)) w2 wx M1 S → Calls Tryd.prog 29 #[.pointer (some ⟨fb, 0, none⟩), .agg (opCells (l.getD k noOp) B cB)] wx (ToldPost (wt (l.take (k + 1))) w2 wx M1 (S.told (l.getD k noOp)).2 (S.told (l.getD k noOp)).1)) := Lib.hid fun wx hx => by
        have := hx.told (l.getD k noOp) hok (by have := HK.out; omega) hbs
        rw [Hfb.out] at this
        rw [hw]
        exact this
      have Hc2 : Hid (∀ wx, Held (wt (l.take k)) w2 wx M2 { S with armed := N - S.steps } → Calls Tryd.prog 29 #[.pointer (some ⟨gb, 0, none⟩), .agg (opCells (l.getD k noOp) B cB)] wx (ToldPost (wt (l.take (k + 1))) w2 wx M2 (({ S with armed := N - S.steps } : FsSt).told (l.getD k noOp)).2 (({ S with armed := N - S.steps } : FsSt).told (l.getD k noOp)).1)) := Lib.hid fun wx hx => by
        have := hx.told (l.getD k noOp) hok (by have := HK.out; omega) hbs
        rw [Hgb.out] at this
        rw [hw]
        exact this
      have hk9 : wt (l.take k) ≤ wt (l.take (k + 1)) := by omega
      clear hw hok hbs
      obtain ⟨wk, hwk⟩ : ∃ wk, wk = wt (l.take (k + 1)) := ⟨_, rfl⟩
      rw [← hwk] at Hc1 Hc2 hk9
      have hk2 : wk ≤ 1048576 := by have := HK.out; omega
      unfold opCells at Hc1 Hc2
      generalize l.getD k noOp = op at *
      have Hq : Hid (∀ wx, Below w2.heap.size w2 wx → (wx.cell? ⟨b, o + k * 6, none⟩ = some (.int .i64 op.kind) ∧ wx.cell? ⟨b, o + k * 6 + 1, none⟩ = some (.int .i64 op.n) ∧ wx.cell? ⟨b, o + k * 6 + 2, none⟩ = some (.int .i64 op.m)) ∧
          wx.cell? ⟨b, o + k * 6 + 3, none⟩ = some (.string op.name) ∧ wx.cell? ⟨b, o + k * 6 + 4, none⟩ = some (.string op.to) ∧ wx.cell? ⟨b, o + k * 6 + 5, none⟩ = some (.slice B op.b.length cB)) :=
        Lib.hid fun wx hb => have hc := Cells.of_below hb; ⟨⟨hc _ _ q0, hc _ _ q1, hc _ _ q2⟩, hc _ _ q3, hc _ _ q4, hc _ _ q5⟩
      clear q0 q1 q2 q3 q4 q5
      have HS := Lib.hid (And.intro hA (And.intro hD hS))
      have Hwk := Lib.hid hwk
      clear hA hD hS hwk hwl
      obtain ⟨⟨q0, q1, q2⟩, q3, q4, q5⟩ := Hq.out _ H1.out.below
      by_cases h5 : 5 < op.kind
      · have Hfi : Hid (ArRelA w2 l N fb gb (.int .i64 ((k : Int) + 1)) wr) := Lib.hid ⟨k + 1, M1, M2, S, by omega, by simp, ⟨Hfb.out, Hgb.out⟩, by rw [← Hwk.out]; exact H1.out.mono hk9, by rw [← Hwk.out]; exact H2.out.mono hk9, A12.out, HS.out⟩
        clear hrd
        go_wp2_with fail
        go_roundw
        case rel => exact Hfi.out
        case measure => simp [intOf]; omega
      · have hrd2 := hrd (by omega)
        obtain ⟨S1', e1, hS1⟩ : ∃ S1' e1, S.told op = (e1, S1') := ⟨_, _, rfl⟩
        obtain ⟨S2', e2, hS2⟩ : ∃ S2' e2, ({ S with armed := N - S.steps } : FsSt).told op = (e2, S2') := ⟨_, _, rfl⟩
        rw [hS1] at hrd2 Hc1
        rw [hS2] at hrd2 Hc2
        simp only at hrd2 Hc1 Hc2
        have Hrd := Lib.hid hrd2
        clear hrd hrd2 hS1 hS2
        go_wp2_with fail
        rw [← Hgb.out]
        refine (H2.out.files hk1).mono ?_
        rintro e w6 ⟨A6, c6, rfl, L6, b6⟩
        have O1 := Lib.hid (H1.out.up.at_.off w6.heap.size)
        have O2 := Lib.hid (H2.out.up.at_.off w6.heap.size)
        have H1 := Lib.hid (H1.out.low b6)
        have H2 := Lib.hid (H2.out.low b6)
        have L6 := Lib.hid L6
        rw [Hgb.out]
        clear b6 q0 q1 q2 q3 q4 q5
        obtain ⟨⟨q0, q1, q2⟩, q3, q4, q5⟩ := Hq.out _ H1.out.below
        go_wp2_with fail
        refine (Hc1.out _ H1.out).mono ?_
        rintro e w7 ⟨rfl, M7, h7, g7⟩
        have L7 := Lib.hid (L6.out.gr O1.out g7).1
        have H2A := Lib.hid (H2.out.aside H1.out A12.out.symm g7)
        have H7 := Lib.hid h7
        have Hfb7 : Hid (M7.fb = fb) := Lib.hid (by rw [g7.fb]; exact Hfb.out)
        clear h7 g7 q0 q1 q2 q3 q4 q5
        obtain ⟨⟨q0, q1, q2⟩, q3, q4, q5⟩ := Hq.out _ H7.out.below
        go_wp2_with fail
        refine (Hc2.out _ H2A.out.1).mono ?_
        rintro e w8 ⟨rfl, M8, h8, g8⟩
        have L8 := Lib.hid (L7.out.gr O2.out g8).1
        have H7A := Lib.hid (H7.out.aside H2A.out.1 H2A.out.2.symm g8)
        have H8 := Lib.hid h8
        have Hgb8 : Hid (M8.fb = gb) := Lib.hid (by rw [g8.fb]; exact Hgb.out)
        clear h8 g8 q0 q1 q2 q3 q4 q5
        go_wp2_with fail
        rw [← Hfb7.out]
        refine H7A.out.1.steps_any.mono ?_
        rintro e w9 ⟨rfl, rfl⟩
        rw [Hfb7.out]
        rcases Hrd.out with ⟨he, hA, hD, hS, hSS⟩ | ⟨hs, he2, hd2, hf2, hd1⟩
        · obtain rfl := he
          have hne : ((S1'.steps : Int) == (N : Int)) = false := by rw [beq_eq_false_iff_ne]; omega
          have Hfi : Hid (ArRelA w2 l N fb gb (.int .i64 ((k : Int) + 1)) w9) := Lib.hid ⟨k + 1, M7, M8, S1', by omega, by simp, ⟨Hfb7.out, Hgb8.out⟩, by rw [← Hwk.out]; exact H7A.out.1, by rw [← Hwk.out, ← hSS]; exact H8.out, H7A.out.2, hA, hD, hS⟩
          clear hA hD hS hSS
          go_wp2_with fail
          go_roundw
          case rel => exact Hfi.out
          case measure => simp [intOf]; omega
        · rw [hs, he2]
          have Hf2 := Lib.hid hf2
          have Hdd := Lib.hid (And.intro hd2 hd1)
          clear hs he2 hd2 hf2 hd1
          go_wp2_with fail
          rw [← Hgb8.out]
          refine (H8.out.files hk2).mono ?_
          rintro e w10 ⟨A10, c10, rfl, L10, b10⟩
          have H7 := Lib.hid (H7A.out.1.low b10)
          have H8 := Lib.hid (H8.out.low b10)
          have L8 := Lib.hid (L8.out.below b10)
          have L10 := Lib.hid L10
          rw [Hgb8.out]
          clear b10
          go_wp2_with fail
          refine (L10.out.sameE L8.out Hf2.out).mono ?_
          rintro e w11 ⟨rfl, b11⟩
          have H7 := Lib.hid (H7.out.low b11)
          have H8 := Lib.hid (H8.out.low b11)
          clear b11 L10 L8
          go_wp2_with fail
          rw [← Hgb8.out]
          refine H8.out.down_any.mono ?_
          rintro e w12 ⟨rfl, rfl⟩
          rw [Hgb8.out, Hdd.out.1]
          go_wp2_with fail
          rw [← Hfb7.out]
          refine H7.out.down_any.mono ?_
          rintro e w13 ⟨rfl, rfl⟩
          rw [Hdd.out.2]
          have Hend : Hid (P (.returned (.bool true)) w13) := Lib.hid (by rw [HP.out]; exact ⟨rfl, Hb2.out.trans (H7.out.below.mono Hb2.out.size)⟩)
          go_wp2_with fail
          exact Hend.out
    · obtain rfl : k = l.length := by omega
      have hk1 : wt (l.take l.length) ≤ 1048576 := by rw [List.take_length]; exact HK.out
      obtain rfl := Hfb.out
      obtain rfl := Hgb.out
      have HD := Lib.hid hD
      clear hA hD hS
      go_wp2_with fail
      refine H2.out.down_any.mono ?_
      rintro e w6 ⟨rfl, rfl⟩
      rw [show ({ S with armed := N - S.steps } : FsSt).down = false from HD.out]
      go_wp2_with fail
      refine (H1.out.files hk1).mono ?_
      rintro e w7 ⟨A7, c7, rfl, L7, b7⟩
      have H1 := Lib.hid (H1.out.low b7)
      have H2 := Lib.hid (H2.out.low b7)
      have L7 := Lib.hid L7
      clear b7
      go_wp2_with fail
      refine (H2.out.files hk1).mono ?_
      rintro e w8 ⟨A8, c8, rfl, L8, b8⟩
      have L7 := Lib.hid (L7.out.below b8)
      have H1 := Lib.hid (H1.out.low b8)
      have H2 := Lib.hid (H2.out.low b8)
      have L8 := Lib.hid L8
      clear b8
      go_wp2_with fail
      refine (L7.out.sameE L8.out rfl).mono ?_
      rintro e w9 ⟨rfl, b9⟩
      have H1 := Lib.hid (H1.out.low b9)
      have H2 := Lib.hid (H2.out.low b9)
      clear b9 L7 L8
      go_wp2_with fail
      refine (H1.out.durable hk1).mono ?_
      rintro e w10 ⟨A7, c7, rfl, L7, b7⟩
      have H1 := Lib.hid (H1.out.low b7)
      have H2 := Lib.hid (H2.out.low b7)
      have L7 := Lib.hid L7
      clear b7
      go_wp2_with fail
      refine (H2.out.durable hk1).mono ?_
      rintro e w11 ⟨A8, c8, rfl, L8, b8⟩
      have L7 := Lib.hid (L7.out.below b8)
      have H1 := Lib.hid (H1.out.low b8)
      have L8 := Lib.hid L8
      clear b8
      go_wp2_with fail
      refine (L7.out.sameE L8.out rfl).mono ?_
      rintro e w12 ⟨rfl, b9⟩
      have H1 := Lib.hid (H1.out.low b9)
      have Hend : Hid (P (.returned (.bool true)) w12) := Lib.hid (by rw [HP.out]; exact ⟨rfl, Hb2.out.trans (H1.out.below.mono Hb2.out.size)⟩)
      go_wp2_with fail
      exact Hend.out
end Go.Proofs.YtaolddgnannojaaDoor
