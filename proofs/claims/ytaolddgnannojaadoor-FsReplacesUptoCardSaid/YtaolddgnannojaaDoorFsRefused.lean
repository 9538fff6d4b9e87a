/-
  FsRefused: the walk.
-/
import Derived.Test.YtaolddgnannojaaDoorFsApart
import Derived.Test.YtaolddgnannojaaDoorFsRp
namespace Go.Proofs.YtaolddgnannojaaDoor
open Go.RowKit Go.Maps

attribute [local go_sem] lt1 lt2 lt3 lt4 lt5 lt6

theorem Lst.sameE {lo hi lo' hi' : Nat} {w : World} {A A' : Option Addr} {c c' : Nat} {L L' : List Fl} (h : Lst lo hi w A c L) (h' : Lst lo' hi' w A' c' L') (he : L = L') :
    Calls Tryd.prog 30 #[.slice A L.length c, .slice A' L'.length c'] w (SmPost w true) :=
  (h.same h').mono fun _ _ ⟨h1, hw⟩ => ⟨by rw [h1, he]; simp, hw⟩
/-- so far -/
def RfRel (w0 : World) (q : Int) (l : List OpC) (fb : Nat) (cv iv : Value) (wr : World) : Prop :=
  ∃ (k : Nat) (M : FsMem) (cr : Bool) (S : FsSt), k ≤ l.length ∧ iv = .int .i64 k ∧ cv = .bool cr ∧ M.fb = fb ∧ Held (wt (l.take k)) w0 wr M S ∧ S.quota = (min (max q 0) 67108864).toNat ∧ (cr = false → S.size ≤ S.quota)
set_option maxHeartbeats 8000000 in
set_option maxRecDepth 100000 in
theorem refused_law (w : World) (hm : MaxL w) (q : Int) (A : Option Addr) (c : Nat) (l : List OpC) (hl : OpAt w A c l) (hK : wt l ≤ 1048576) :
    Calls Tryd.prog 5 #[.int .i64 q, .slice A l.length c] w (LawPost w) := by
  obtain ⟨P, hP⟩ : ∃ P, P = LawPost w := ⟨_, rfl⟩
  rw [← hP]
  have HP := Lib.hid hP
  have HM := Lib.hid hm
  have HL := Lib.hid hl
  have HK := Lib.hid hK
  have hlen := hl.len
  clear hP hm hl hK
  go_enter Tryd.func5, Tryd.ntmps5
  go_wp2_with fail
  refine (first_any w HM.out).mono ?_
  rintro e w1 ⟨rfl, hb1⟩
  have Hb1 := Lib.hid hb1
  clear hb1
  go_wp2_with fail
  refine (few_low w1 A c l (HL.out.low Hb1.out)).mono ?_
  rintro e w2 ⟨r1, rfl, hb2⟩
  have Hb2 := Lib.hid (Hb1.out.trans (hb2.mono Hb1.out.size))
  clear hb2
  cases r1
  · have Hend : Hid (P (.returned (.bool true)) w2) := Lib.hid (by rw [HP.out]; exact ⟨rfl, Hb2.out⟩)
    go_wp2_with fail
    exact Hend.out
  have HL2 := Lib.hid (HL.out.low Hb2.out)
  have HM2 := Lib.hid (HM.out.below Hb2.out)
  clear HL HM Hb1 w1
  go_wp2_with fail
  refine (up_new w2 HM2.out q).mono ?_
  rintro e w3 ⟨M, rfl, h1, hb, ho⟩
  have Hrel0 : Hid (RfRel w2 q l M.fb (.bool false) (.int .i64 0) w3) := Lib.hid ⟨0, M, false, newS q, by omega, rfl, rfl, rfl, ⟨h1.mono (Nat.zero_le _), hb, ho⟩, rfl, fun _ => by show (0 : Int) ≤ _; omega⟩
  generalize M.fb = fb at *
  clear h1 hb ho
  go_wp2_with fail
  go_loopw [8, 9] (fun cv iv wr => RfRel w2 q l fb cv iv wr) (fun _ iv _ => l.length - (intOf iv).toNat)
  case atStart => exact Hrel0.out
  case round =>
    clear Hrel0
    obtain ⟨k, M, cr, S, hk, rfl, rfl, hfb, hh, hqt, hsz⟩ := hrel
    have Hh := Lib.hid hh
    have Hfb := Lib.hid hfb
    clear hh hfb
    by_cases hlt : k < l.length
    · obtain ⟨b, o, B, cB, rfl, hok, hbs, ⟨q0, q1, q2⟩, q3, q4, q5⟩ := HL2.out.later Hh.out.below hlt
      have hw := wt_take hlt
      have hwl := wt_le l (k + 1)
      have hk1 : wt (l.take k) ≤ 1048576 := by have := HK.out; omega
      have hkeep := told_keep S (l.getD k noOp)
      have hquo := told_quota S (l.getD k noOp)
      have hts := told_size S (l.getD k noOp)
      have Hc : Hid (∀ wx, Held (wt (l.take k)) w2 wx M S → Calls Tryd.prog 29 #[.pointer (some ⟨fb, 0, none⟩), .agg (opCells (l.getD k noOp) B cB)] wx (ToldPost (wt (l.take (k + 1))) w2 wx M (S.told (l.getD k noOp)).2 (S.told (l.getD k noOp)).1)) := Lib.hid fun wx hx => by
        have := hx.told (l.getD k noOp) hok (by have := HK.out; omega) hbs
        rw [Hfb.out] at this
        rw [hw]
        exact this
      clear hw hok hbs
      obtain ⟨wk, hwk⟩ : ∃ wk, wk = wt (l.take (k + 1)) := ⟨_, rfl⟩
      rw [← hwk] at Hc
      unfold opCells at Hc
      generalize l.getD k noOp = op at *
      obtain ⟨er, S', hS'⟩ : ∃ er S', S.told op = (er, S') := ⟨_, _, rfl⟩
      rw [hS'] at hkeep hquo hts Hc
      simp only at hkeep hquo hts Hc
      clear hS'
      have hk2 : wk ≤ 1048576 := by have := HK.out; omega
      obtain ⟨cr', hcr', hsz'⟩ : ∃ cr' : Bool, cr' = (cr || (op.kind == 7)) ∧ (cr' = false → S'.size ≤ S'.quota) := ⟨_, rfl, fun h => by
        simp only [Bool.or_eq_false_iff, beq_eq_false_iff_ne] at h
        rw [hquo]
        exact hts h.2 (hsz h.1)⟩
      have Hnx : Hid (∀ (M' : FsMem) (wx : World), Held wk w2 wx M' S' → M'.fb = fb → RfRel w2 q l fb (.bool cr') (.int .i64 ((k : Int) + 1)) wx) :=
        Lib.hid fun M' wx h1 h2 => ⟨k + 1, M', cr', S', by omega, by simp, rfl, h2, hwk ▸ h1, by rw [hquo, hqt], hsz'⟩
      have hfin : cr' = false → ¬ min (max q 0) 67108864 < S'.size := fun h => by
        have h1 := hsz' h
        have h2 : (S'.quota : Int) = min (max q 0) 67108864 := by rw [hquo, hqt]; omega
        omega
      have Hfin := Lib.hid hfin
      have Hkeep := Lib.hid hkeep
      have Hcr := Lib.hid hcr'
      clear hkeep hts hsz hsz' hquo hqt hwk hwl hcr' hfin
      have hways : (cr = true ∧ cr' = true) ∨ (cr = false ∧ (op.kind == 7) = true ∧ cr' = true) ∨ (cr = false ∧ (op.kind == 7) = false ∧ cr' = false) := by
        rw [Hcr.out]
        cases cr <;> cases (op.kind == 7) <;> simp
      clear Hcr
      rcases hways with ⟨rfl, rfl⟩ | ⟨rfl, h7, rfl⟩ | ⟨rfl, h7, rfl⟩
      all_goals
        go_wp2_with fail
        rw [← Hfb.out]
        refine (Hh.out.files hk1).mono ?_
        rintro e w4 ⟨A4, c4, rfl, L4, b4⟩
        have O4 := Lib.hid (Hh.out.up.at_.off w4.heap.size)
        have Hh := Lib.hid (Hh.out.low b4)
        have L4 := Lib.hid L4
        rw [Hfb.out]
        have q0 := (Cells.of_below b4) _ _ q0
        have q1 := (Cells.of_below b4) _ _ q1
        have q2 := (Cells.of_below b4) _ _ q2
        have q3 := (Cells.of_below b4) _ _ q3
        have q4 := (Cells.of_below b4) _ _ q4
        have q5 := (Cells.of_below b4) _ _ q5
        clear b4
        go_wp2_with fail
        rw [← Hfb.out]
        refine (Hh.out.durable hk1).mono ?_
        rintro e w5 ⟨A5, c5, rfl, L5, b5⟩
        have O5 := Lib.hid (Hh.out.up.at_.off w5.heap.size)
        have L4 := Lib.hid (L4.out.below b5)
        have Hh := Lib.hid (Hh.out.low b5)
        have L5 := Lib.hid L5
        rw [Hfb.out]
        have q0 := (Cells.of_below b5) _ _ q0
        have q1 := (Cells.of_below b5) _ _ q1
        have q2 := (Cells.of_below b5) _ _ q2
        have q3 := (Cells.of_below b5) _ _ q3
        have q4 := (Cells.of_below b5) _ _ q4
        have q5 := (Cells.of_below b5) _ _ q5
        clear b5
        go_wp2_with fail
        rw [← Hfb.out]
        refine Hh.out.steps_any.mono ?_
        rintro e w6 ⟨rfl, rfl⟩
        rw [Hfb.out]
        go_wp2_with fail
        refine (Hc.out _ Hh.out).mono ?_
        rintro e w7 ⟨rfl, M7, h7', g7⟩
        have O7 := Lib.hid (L4.out.gr O4.out g7)
        have O8 := Lib.hid (L5.out.gr O5.out g7)
        have H7 := Lib.hid h7'
        have Hfb7 : Hid (M7.fb = fb) := Lib.hid (by rw [g7.fb]; exact Hfb.out)
        clear h7' g7
        by_cases he : er = 0
        · subst he
          go_wp2_with fail
          first
          | (have Hfi := Lib.hid (Hnx.out M7 _ H7.out Hfb7.out)
             go_roundw
             case rel => exact Hfi.out
             case measure => simp [intOf]; omega)
          | skip
          all_goals
            have hfq : ¬ min (max q 0) 67108864 < S'.size := by simpa using Hfin.out
            rw [← Hfb7.out]
            refine H7.out.size_any.mono ?_
            rintro e w8 ⟨rfl, rfl⟩
            rw [Hfb7.out]
            have Hfi := Lib.hid (Hnx.out M7 _ H7.out Hfb7.out)
            go_wp2_with fail
            go_roundw
            case rel => exact Hfi.out
            case measure => simp [intOf]; omega
        · have heI : (er : Int) ≠ 0 := by omega
          have Hk := Lib.hid (Hkeep.out he)
          have Hfq := Lib.hid Hfin.out
          have heb : ((er : Int) != 0) = true := by rw [bne_iff_ne]; exact heI
          clear Hfin he heI
          go_wp2_with fail
          rw [← Hfb7.out]
          refine (H7.out.files hk2).mono ?_
          rintro e w8 ⟨A8, c8, rfl, L8, b8⟩
          have H7 := Lib.hid (H7.out.low b8)
          have O7 := Lib.hid (O7.out.1.below b8)
          have O8 := Lib.hid (O8.out.1.below b8)
          have L8 := Lib.hid L8
          rw [Hfb7.out]
          clear b8
          go_wp2_with fail
          refine (L8.out.sameE O7.out Hk.out.1).mono ?_
          rintro e w9 ⟨rfl, b9⟩
          have H7 := Lib.hid (H7.out.low b9)
          have O8 := Lib.hid (O8.out.below b9)
          clear b9 L8 O7
          go_wp2_with fail
          rw [← Hfb7.out]
          refine (H7.out.durable hk2).mono ?_
          rintro e w10 ⟨A10, c10, rfl, L10, b10⟩
          have H7 := Lib.hid (H7.out.low b10)
          have O8 := Lib.hid (O8.out.below b10)
          have L10 := Lib.hid L10
          rw [Hfb7.out]
          clear b10
          go_wp2_with fail
          refine (L10.out.sameE O8.out Hk.out.2.1).mono ?_
          rintro e w11 ⟨rfl, b11⟩
          have H7 := Lib.hid (H7.out.low b11)
          clear b11 L10 O8
          go_wp2_with fail
          rw [← Hfb7.out]
          refine H7.out.steps_any.mono ?_
          rintro e w12 ⟨rfl, rfl⟩
          rw [Hfb7.out, Hk.out.2.2]
          have Hfi := Lib.hid (Hnx.out M7 _ H7.out Hfb7.out)
          go_wp2_with fail
          first
          | (go_roundw
             case rel => exact Hfi.out
             case measure => simp [intOf]; omega)
          | skip
          all_goals
            have hfq : ¬ min (max q 0) 67108864 < S'.size := by simpa using Hfq.out
            rw [← Hfb7.out]
            refine H7.out.size_any.mono ?_
            rintro e w13 ⟨rfl, rfl⟩
            rw [Hfb7.out]
            go_wp2_with fail
            go_roundw
            case rel => exact Hfi.out
            case measure => simp [intOf]; omega
    · obtain rfl : k = l.length := by omega
      have Hend : Hid (P (.returned (.bool true)) wr) := Lib.hid (by rw [HP.out]; exact ⟨rfl, Hb2.out.trans (Hh.out.below.mono Hb2.out.size)⟩)
      clear Hh hsz hqt
      go_wp2_with fail
      exact Hend.out
end Go.Proofs.YtaolddgnannojaaDoor
