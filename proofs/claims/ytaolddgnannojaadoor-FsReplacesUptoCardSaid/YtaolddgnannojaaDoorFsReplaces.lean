/-
  FsReplaces: the walk. (Printed by wip/fs/genrepl.py.)
-/
import Derived.Test.YtaolddgnannojaaDoorFsRefused
import Derived.Test.YtaolddgnannojaaDoorFsRpl
namespace Go.Proofs.YtaolddgnannojaaDoor
open Go.RowKit Go.Maps

attribute [local go_sem] lt1 lt2 lt3 lt4 lt5 lt6

theorem Held.write {K : Nat} {w0 w : World} {M : FsMem} {S : FsSt} (h : Held K w0 w M S) (name : ByteArray) (hn : name.size ≤ 1048576) (d : List UInt8) (hK : K + 2 + d.length ≤ 1048576) {A : Option Addr} {c : Nat} (hb : Bs w0 A c d) :
    Calls Tryd.prog 11 #[.pointer (some ⟨M.fb, 0, none⟩), .string name, .slice A d.length c] w (ToldPost (K + 2 + d.length) w0 w M (S.write name d).2 (S.write name d).1) :=
  (up_write h.up name hn d hK A c (h.bs hb) (h.out hb)).mono fun _ _ ⟨he, M', h1, h2⟩ => ⟨he, M', h.next h1 h2, h2⟩
theorem Held.sync {K : Nat} {w0 w : World} {M : FsMem} {S : FsSt} (h : Held K w0 w M S) (name : ByteArray) (hn : name.size ≤ 1048576) (hK : K + 2 ≤ 1048576) :
    Calls Tryd.prog 19 #[.pointer (some ⟨M.fb, 0, none⟩), .string name] w (ToldPost (K + 2) w0 w M (S.sync name).2 (S.sync name).1) :=
  (up_sync h.up name hn hK).mono fun _ _ ⟨he, M', h1, h2⟩ => ⟨he, M', h.next h1 h2, h2⟩
theorem Held.rename {K : Nat} {w0 w : World} {M : FsMem} {S : FsSt} (h : Held K w0 w M S) (a b : ByteArray) (ha : a.size ≤ 1048576) (hb : b.size ≤ 1048576) (hK : K + 2 ≤ 1048576) :
    Calls Tryd.prog 23 #[.pointer (some ⟨M.fb, 0, none⟩), .string a, .string b] w (ToldPost (K + 2) w0 w M (S.rename a b).2 (S.rename a b).1) :=
  (up_rename h.up a b ha hb hK).mono fun _ _ ⟨he, M', h1, h2⟩ => ⟨he, M', h.next h1 h2, h2⟩
theorem Held.syncdir {K : Nat} {w0 w : World} {M : FsMem} {S : FsSt} (h : Held K w0 w M S) (dir : ByteArray) (hd : dir.size ≤ 1048576) (hK : K + 2 ≤ 1048576) :
    Calls Tryd.prog 20 #[.pointer (some ⟨M.fb, 0, none⟩), .string dir] w (ToldPost (K + 2) w0 w M (S.syncdir dir).2 (S.syncdir dir).1) :=
  (up_syncdir h.up dir hd hK).mono fun _ _ ⟨he, M', h1, h2⟩ => ⟨he, M', h.next h1 h2, h2⟩
/-- the bytes under a name -/
def RdPost (w : World) (d : List UInt8) (e : Ending) (w' : World) : Prop := Below w.heap.size w w' ∧ ∃ g, e = .returned (.tuple #[.slice (some ⟨g, 0, none⟩) d.length d.length, .int .i64 0]) ∧ Bs w' (some ⟨g, 0, none⟩) d.length d
theorem Held.read {K : Nat} {w0 w : World} {M : FsMem} {S : FsSt} (h : Held K w0 w M S) (hK : K ≤ 1048576) {name : ByteArray} (hn : name.size ≤ 1048576) {d : List UInt8} (hr : ∃ i, S.of name = some i ∧ (S.fileD i).2.d = d) (hd : d.length ≤ 1048576) :
    Calls Tryd.prog 24 #[.pointer (some ⟨M.fb, 0, none⟩), .string name] w (RdPost w d) := by
  refine (read_any w M S K h.up.at_ h.up.good.inv hK name hn).mono fun e w' ⟨hb, hp⟩ => ⟨hb, ?_⟩
  obtain ⟨i, h1, h2⟩ := hr
  rw [h1] at hp
  simp only [h2] at hp
  obtain ⟨g, h3, h4, _⟩ := hp
  exact ⟨g, h3, Bs.of_block h4 (Nat.le_refl _) (by unfold maxLen; omega)⟩
theorem bes_ne (s : ByteArray) : s ++ ⟨#[46, 116, 109, 112]⟩ ≠ s := fun h => by
  have := congrArg ByteArray.size h
  rw [ByteArray.size_append] at this
  have h4 : (⟨#[46, 116, 109, 112]⟩ : ByteArray).size = 4 := rfl
  omega
theorem dirOf_le (s : ByteArray) : (dirOf s).size ≤ s.size := by
  unfold dirOf
  simp
  omega
theorem valid_pos {s : ByteArray} (h : validF (toL s) = true) : 1 ≤ s.size := by
  unfold validF at h
  simp only [Bool.and_eq_true, bne_iff_ne] at h
  have h1 : toL s ≠ [] := h.1.1
  rcases Nat.eq_zero_or_pos s.size with h2 | h2
  · exfalso
    apply h1
    apply List.eq_nil_of_length_eq_zero
    unfold toL
    simpa using h2
  · exact h2
set_option maxHeartbeats 16000000 in
set_option maxRecDepth 100000 in
theorem replaces_law (w : World) (hm : MaxL w) (q : Int) (A A2 A3 : Option Addr) (c c2 c3 : Nat) (l : List OpC) (hl : OpAt w A c l) (s : ByteArray) (hs : s.size ≤ 1048576) (o f : List UInt8) (ho : Bs w A2 c2 o) (hf : Bs w A3 c3 f)
    (hK : wt l + 5 * l.length + s.size + o.length + f.length + 8 ≤ 1048576) (r n y : Int) (hr : r ≤ 9223372036854775807) (hn : n ≤ 9223372036854775807) (hy : y ≤ 9223372036854775807) :
    Calls Tryd.prog 4 #[.int .i64 q, .slice A l.length c, .string s, .slice A2 o.length c2, .slice A3 f.length c3, .int .i64 r, .int .i64 n, .int .i64 y] w (LawPost w) := by
  obtain ⟨P, hP⟩ : ∃ P, P = LawPost w := ⟨_, rfl⟩
  rw [← hP]
  have HP := Lib.hid hP
  have HM := Lib.hid hm
  have HL := Lib.hid hl
  have HK := Lib.hid hK
  have HO := Lib.hid ho
  have HF := Lib.hid hf
  have hol : o.length ≤ 1048576 := by omega
  have hfl : f.length ≤ 1048576 := by omega
  clear hP hm hl hK ho hf
  go_enter Tryd.func4, Tryd.ntmps4
  go_wp2_with fail
  refine (first_any w HM.out).mono ?_
  rintro e w1 ⟨rfl, hb1⟩
  have Hb1 := Lib.hid hb1
  clear hb1
  go_wp2_with fail
  refine (few_low w1 A c l (HL.out.low Hb1.out)).mono ?_
  rintro e w2 ⟨r1, rfl, hb2⟩
  have Hb2 := Lib.hid (Hb1.out.trans (hb2.mono Hb1.out.size))
  clear hb2
  have Hend : Hid (P (.returned (.bool true)) w2) := Lib.hid (by rw [HP.out]; exact ⟨rfl, Hb2.out⟩)
  cases r1
  · go_wp2_with fail
    exact Hend.out
  by_cases x1 : (20000 : Int) < o.length
  · go_wp2_with fail
    exact Hend.out
  by_cases x2 : (20000 : Int) < f.length
  · go_wp2_with fail
    exact Hend.out
  by_cases x3 : (200 : Int) < s.size
  · go_wp2_with fail
    exact Hend.out
  clear Hend
  go_wp2_with fail
  refine (valid_any w2 s hs (HM.out.below Hb2.out)).mono ?_
  rintro e w3 ⟨rfl, hb3⟩
  have Hb3 := Lib.hid (Hb2.out.trans (hb3.mono Hb2.out.size))
  clear hb3
  have Hend : Hid (P (.returned (.bool true)) w3) := Lib.hid (by rw [HP.out]; exact ⟨rfl, Hb3.out⟩)
  by_cases hv : validF (toL s) = true
  case neg =>
    have hv' : validF (toL s) = false := by simpa using hv
    rw [hv']
    clear hv hv'
    go_wp2_with fail
    exact Hend.out
  rw [hv]
  have HV := Lib.hid hv
  have hKK : wt l + o.length + f.length + 14 ≤ 1048576 := by
    have h1 := HK.out
    have h2 := valid_pos hv
    cases hll : l with
    | nil => simp [wt]; omega
    | cons a t =>
      rw [hll] at h1
      simp only [List.length_cons] at h1
      omega
  have HL3 := Lib.hid (HL.out.low Hb3.out)
  have HM3 := Lib.hid (HM.out.below Hb3.out)
  have HO3 := Lib.hid (HO.out.keep (Cells.of_below Hb3.out))
  have HF3 := Lib.hid (HF.out.keep (Cells.of_below Hb3.out))
  have hbz : (s ++ ⟨#[46, 116, 109, 112]⟩ : ByteArray).size ≤ 1048576 := by
    rw [ByteArray.size_append]
    have h4 : (⟨#[46, 116, 109, 112]⟩ : ByteArray).size = 4 := rfl
    omega
  have Hne := Lib.hid (bes_ne s)
  have Hdz := Lib.hid (Nat.le_trans (dirOf_le s) hs)
  clear hv HL HM HO HF HK Hb1 Hb2 Hend w1 w2
  go_wp2_with fail
  refine (made_any w3 HM3.out q A c l HL3.out (by omega)).mono ?_
  rintro e w4 ⟨M1, rfl, h1, hb, hown⟩
  have H1 : Hid (Held (wt l) w3 w4 M1 ((newS q).tells l)) := Lib.hid ⟨h1, hb, hown⟩
  generalize (newS q).tells l = S at *
  clear h1 hb hown
  generalize wt l = K at *
  go_wp2_with fail
  refine (H1.out.crash (by omega) 1000 1000000 (by omega) (by omega)).mono ?_
  rintro e w5 ⟨rfl, M5, h5, g5⟩
  have H5 := Lib.hid h5
  rw [← g5.fb]
  have hpro := prologue h5.up.good rfl rfl rfl HV.out hs o
  generalize S.crash 1000 1000000 = S0 at *
  clear h5 g5 H1
  obtain ⟨e1, S1, hS1⟩ : ∃ e S', S0.write s o = (e, S') := ⟨_, _, rfl⟩
  obtain ⟨e2, S2, hS2⟩ : ∃ e S', S1.sync s = (e, S') := ⟨_, _, rfl⟩
  obtain ⟨e3, S3, hS3⟩ : ∃ e S', S2.syncdir (dirOf s) = (e, S') := ⟨_, _, rfl⟩
  rw [hS1] at hpro
  simp only at hpro
  rw [hS2] at hpro
  simp only at hpro
  rw [hS3] at hpro
  simp only at hpro
  have Hpro := Lib.hid hpro
  clear hpro
  have c1 := H5.out.write s hs o (by omega) HO3.out
  rw [hS1] at c1
  have C1 := Lib.hid c1
  clear c1 hS1
  go_wp2_with fail
  refine C1.out.mono ?_
  rintro e w6 ⟨rfl, M6, h6, g6⟩
  have H6 := Lib.hid h6
  rw [← g6.fb]
  have c2 := h6.sync s hs (by omega)
  rw [hS2] at c2
  have C2 := Lib.hid c2
  clear c2 hS2 h6 g6 H5 C1
  go_wp2_with fail
  refine C2.out.mono ?_
  rintro e w7 ⟨rfl, M7, h7, g7⟩
  rw [← g7.fb]
  have c3' := h7.syncdir (dirOf s) Hdz.out (by omega)
  rw [hS3] at c3'
  have C3 := Lib.hid c3'
  clear c3' hS3 h7 g7 H6 C2
  go_wp2_with fail
  refine (dir_any _ s hs).mono ?_
  rintro e w8 ⟨rfl, rfl⟩
  go_wp2_with fail
  refine C3.out.mono ?_
  rintro e w9 ⟨rfl, M9, h9, g9⟩
  have H9 := Lib.hid h9
  rw [← g9.fb]
  clear h9 g9 C3
  rcases Hpro.out with rfl | ⟨rfl, rfl, rfl, hr1⟩
  · have Hend : Hid (P (.returned (.bool true)) w9) := Lib.hid (by rw [HP.out]; exact ⟨rfl, Hb3.out.trans (H9.out.below.mono Hb3.out.size)⟩)
    go_wp2_with fail
    refine (num_any _ _).mono ?_
    rintro e w10 ⟨rfl, rfl⟩
    go_wp2_with fail
    refine (num_any _ _).mono ?_
    rintro e w11 ⟨rfl, rfl⟩
    go_wp2_with fail
    exact Hend.out
  have HR1 := Lib.hid (hr1.arm (max r 0).toNat)
  clear hr1 Hpro
  go_wp2_with fail
  refine (num_any _ _).mono ?_
  rintro e w10 ⟨rfl, rfl⟩
  go_wp2_with fail
  refine (num_any _ _).mono ?_
  rintro e w11 ⟨rfl, rfl⟩
  go_wp2_with fail
  refine (num_any _ _).mono ?_
  rintro e w12 ⟨rfl, rfl⟩
  have hsz : ¬ 9223372036854775807 < s.size + 4 := by omega
  go_wp2_with fail
  refine (H9.out.arm r hr).mono ?_
  rintro e w13 ⟨rfl, M13, h13, g13⟩
  have H13 := Lib.hid h13
  rw [← g13.fb]
  clear h13 g13 H9 hsz
  generalize ({ S3 with armed := (max r 0).toNat } : FsSt) = S4 at *
  generalize s ++ ⟨#[46, 116, 109, 112]⟩ = bes at *
  have hwr := write_r H13.out.up.good (bes := bes) HR1.out f
  obtain ⟨e5, S5, hS5⟩ : ∃ e S', S4.write bes f = (e, S') := ⟨_, _, rfl⟩
  have c5 := H13.out.write bes hbz f (by omega) HF3.out
  rw [hS5] at hwr c5
  have C5 := Lib.hid c5
  have Hwr := Lib.hid hwr
  clear c5 hwr hS5 HR1
  go_wp2_with fail
  refine C5.out.mono ?_
  rintro e w14 ⟨rfl, M14, h14, g14⟩
  have H14 := Lib.hid h14
  rw [← g14.fb]
  clear h14 g14 C5 H13
  rcases Hwr.out with ⟨he, hw⟩ | ⟨he, k, hr2⟩
  · try simp only at he hw
    have heb : ((e5 : Nat) : Int) ≠ 0 := by omega
    have hbb : (((e5 : Nat) : Int) == 0) = false := by rw [beq_eq_false_iff_ne]; exact heb
    have hbn : (((e5 : Nat) : Int) != 0) = true := by rw [bne_iff_ne]; exact heb
    have Hrd := Lib.hid (read_full H14.out.up.good y (hw n))
    clear hw
    go_wp2_with fail
    refine (num_any _ _).mono ?_
    rintro e wn1 ⟨rfl, rfl⟩
    go_wp2_with fail
    refine (num_any _ _).mono ?_
    rintro e wn2 ⟨rfl, rfl⟩
    go_wp2_with fail
    refine (num_any _ _).mono ?_
    rintro e wn3 ⟨rfl, rfl⟩
    go_wp2_with fail
    refine (H14.out.crash (by omega) n y hn hy).mono ?_
    rintro e w20 ⟨rfl, M20, h20, g20⟩
    have H20 := Lib.hid h20
    rw [← g20.fb]
    clear h20 g20
    go_wp2_with fail
    refine (H20.out.read (by omega) hs Hrd.out hol).mono ?_
    rintro e w21 ⟨b21, g, rfl, hg⟩
    have HN := Lib.hid hg
    have HB := Lib.hid (H20.out.below.trans (b21.mono H20.out.below.size))
    have HO21 := Lib.hid (HO3.out.keep (Cells.of_below HB.out))
    have HF21 := Lib.hid (HF3.out.keep (Cells.of_below HB.out))
    clear b21 hg
    go_wp2_with fail
    refine (same_any o f _ _ _ _ w21 HN.out HF21.out).mono ?_
    rintro e w22 ⟨rfl, hw22⟩
    have B22 : Hid (Below w21.heap.size w21 w22) := Lib.hid (by obtain ⟨nn, rfl⟩ := hw22; exact ⟨rfl, rfl, rfl, Nat.le_refl _, fun _ _ => rfl⟩)
    clear hw22
    go_wp2_with fail
    refine (same_any o o _ _ _ _ w22 (HN.out.keep (Cells.of_below B22.out)) (HO21.out.keep (Cells.of_below B22.out))).mono ?_
    rintro e w23 ⟨rfl, hw23⟩
    have Hend : Hid (P (.returned (.bool true)) w23) := Lib.hid (by
      obtain ⟨nn, rfl⟩ := hw23
      rw [HP.out]
      refine ⟨rfl, ((Hb3.out.trans (HB.out.mono Hb3.out.size)).trans (B22.out.mono (Nat.le_trans Hb3.out.size HB.out.size))).trans ⟨rfl, rfl, rfl, Nat.le_refl _, fun _ _ => rfl⟩⟩)
    clear hw23
    try rw [show (o == o) = true from BEq.rfl]
    generalize (o == f) = bx at *
    clear HN HO21 HF21 HB H20 Hrd B22
    cases bx
    all_goals
      go_wp2_with fail
      refine (num_any _ _).mono ?_
      rintro e w24 ⟨rfl, rfl⟩
      go_wp2_with fail
      first
      | exact Hend.out
      | (refine (num_any _ _).mono ?_
         rintro e w25 ⟨rfl, rfl⟩
         go_wp2_with fail
         exact Hend.out)
  · try simp only at he hr2
    subst he
    clear Hwr
    have hsy := sync_r H14.out.up.good hr2 Hne.out
    obtain ⟨e6, S6, hS6⟩ : ∃ e S', S5.sync bes = (e, S') := ⟨_, _, rfl⟩
    have c6 := H14.out.sync bes hbz (by omega)
    rw [hS6] at hsy c6
    have C6 := Lib.hid c6
    have Hsy := Lib.hid hsy
    clear c6 hsy hS6 hr2
    go_wp2_with fail
    refine (num_any _ _).mono ?_
    rintro e wn4 ⟨rfl, rfl⟩
    go_wp2_with fail
    refine C6.out.mono ?_
    rintro e w15 ⟨rfl, M15, h15, g15⟩
    have H15 := Lib.hid h15
    rw [← g15.fb]
    clear h15 g15 C6 H14
    rcases Hsy.out with ⟨he, hw⟩ | ⟨he, hr3⟩
    · try simp only at he hw
      have heb : ((e6 : Nat) : Int) ≠ 0 := by omega
      have hbb : (((e6 : Nat) : Int) == 0) = false := by rw [beq_eq_false_iff_ne]; exact heb
      have hbn : (((e6 : Nat) : Int) != 0) = true := by rw [bne_iff_ne]; exact heb
      have Hrd := Lib.hid (read_full H15.out.up.good y (hw n))
      clear hw
      go_wp2_with fail
      refine (num_any _ _).mono ?_
      rintro e wn5 ⟨rfl, rfl⟩
      go_wp2_with fail
      refine (num_any _ _).mono ?_
      rintro e wn6 ⟨rfl, rfl⟩
      go_wp2_with fail
      refine (H15.out.crash (by omega) n y hn hy).mono ?_
      rintro e w20 ⟨rfl, M20, h20, g20⟩
      have H20 := Lib.hid h20
      rw [← g20.fb]
      clear h20 g20
      go_wp2_with fail
      refine (H20.out.read (by omega) hs Hrd.out hol).mono ?_
      rintro e w21 ⟨b21, g, rfl, hg⟩
      have HN := Lib.hid hg
      have HB := Lib.hid (H20.out.below.trans (b21.mono H20.out.below.size))
      have HO21 := Lib.hid (HO3.out.keep (Cells.of_below HB.out))
      have HF21 := Lib.hid (HF3.out.keep (Cells.of_below HB.out))
      clear b21 hg
      go_wp2_with fail
      refine (same_any o f _ _ _ _ w21 HN.out HF21.out).mono ?_
      rintro e w22 ⟨rfl, hw22⟩
      have B22 : Hid (Below w21.heap.size w21 w22) := Lib.hid (by obtain ⟨nn, rfl⟩ := hw22; exact ⟨rfl, rfl, rfl, Nat.le_refl _, fun _ _ => rfl⟩)
      clear hw22
      go_wp2_with fail
      refine (same_any o o _ _ _ _ w22 (HN.out.keep (Cells.of_below B22.out)) (HO21.out.keep (Cells.of_below B22.out))).mono ?_
      rintro e w23 ⟨rfl, hw23⟩
      have Hend : Hid (P (.returned (.bool true)) w23) := Lib.hid (by
        obtain ⟨nn, rfl⟩ := hw23
        rw [HP.out]
        refine ⟨rfl, ((Hb3.out.trans (HB.out.mono Hb3.out.size)).trans (B22.out.mono (Nat.le_trans Hb3.out.size HB.out.size))).trans ⟨rfl, rfl, rfl, Nat.le_refl _, fun _ _ => rfl⟩⟩)
      clear hw23
      try rw [show (o == o) = true from BEq.rfl]
      generalize (o == f) = bx at *
      clear HN HO21 HF21 HB H20 Hrd B22
      cases bx
      all_goals
        go_wp2_with fail
        refine (num_any _ _).mono ?_
        rintro e w24 ⟨rfl, rfl⟩
        go_wp2_with fail
        first
        | exact Hend.out
        | (refine (num_any _ _).mono ?_
           rintro e w25 ⟨rfl, rfl⟩
           go_wp2_with fail
           exact Hend.out)
    · try simp only at he hr3
      subst he
      clear Hsy
      have hre := rename_r H15.out.up.good hr3 Hne.out HV.out
      obtain ⟨e7, S7, hS7⟩ : ∃ e S', S6.rename bes s = (e, S') := ⟨_, _, rfl⟩
      have c7 := H15.out.rename bes s hbz hs (by omega)
      rw [hS7] at hre c7
      have C7 := Lib.hid c7
      have Hre := Lib.hid hre
      clear c7 hre hS7 hr3
      go_wp2_with fail
      refine (num_any _ _).mono ?_
      rintro e wn7 ⟨rfl, rfl⟩
      go_wp2_with fail
      refine C7.out.mono ?_
      rintro e w16 ⟨rfl, M16, h16, g16⟩
      have H16 := Lib.hid h16
      rw [← g16.fb]
      clear h16 g16 C7 H15
      rcases Hre.out with ⟨he, hw⟩ | ⟨he, hr4⟩
      · try simp only at he hw
        have heb : ((e7 : Nat) : Int) ≠ 0 := by omega
        have hbb : (((e7 : Nat) : Int) == 0) = false := by rw [beq_eq_false_iff_ne]; exact heb
        have hbn : (((e7 : Nat) : Int) != 0) = true := by rw [bne_iff_ne]; exact heb
        have Hrd := Lib.hid (read_full H16.out.up.good y (hw n))
        clear hw
        go_wp2_with fail
        refine (num_any _ _).mono ?_
        rintro e wn8 ⟨rfl, rfl⟩
        go_wp2_with fail
        refine (H16.out.crash (by omega) n y hn hy).mono ?_
        rintro e w20 ⟨rfl, M20, h20, g20⟩
        have H20 := Lib.hid h20
        rw [← g20.fb]
        clear h20 g20
        go_wp2_with fail
        refine (H20.out.read (by omega) hs Hrd.out hol).mono ?_
        rintro e w21 ⟨b21, g, rfl, hg⟩
        have HN := Lib.hid hg
        have HB := Lib.hid (H20.out.below.trans (b21.mono H20.out.below.size))
        have HO21 := Lib.hid (HO3.out.keep (Cells.of_below HB.out))
        have HF21 := Lib.hid (HF3.out.keep (Cells.of_below HB.out))
        clear b21 hg
        go_wp2_with fail
        refine (same_any o f _ _ _ _ w21 HN.out HF21.out).mono ?_
        rintro e w22 ⟨rfl, hw22⟩
        have B22 : Hid (Below w21.heap.size w21 w22) := Lib.hid (by obtain ⟨nn, rfl⟩ := hw22; exact ⟨rfl, rfl, rfl, Nat.le_refl _, fun _ _ => rfl⟩)
        clear hw22
        go_wp2_with fail
        refine (same_any o o _ _ _ _ w22 (HN.out.keep (Cells.of_below B22.out)) (HO21.out.keep (Cells.of_below B22.out))).mono ?_
        rintro e w23 ⟨rfl, hw23⟩
        have Hend : Hid (P (.returned (.bool true)) w23) := Lib.hid (by
          obtain ⟨nn, rfl⟩ := hw23
          rw [HP.out]
          refine ⟨rfl, ((Hb3.out.trans (HB.out.mono Hb3.out.size)).trans (B22.out.mono (Nat.le_trans Hb3.out.size HB.out.size))).trans ⟨rfl, rfl, rfl, Nat.le_refl _, fun _ _ => rfl⟩⟩)
        clear hw23
        try rw [show (o == o) = true from BEq.rfl]
        generalize (o == f) = bx at *
        clear HN HO21 HF21 HB H20 Hrd B22
        cases bx
        all_goals
          go_wp2_with fail
          refine (num_any _ _).mono ?_
          rintro e w24 ⟨rfl, rfl⟩
          go_wp2_with fail
          first
          | exact Hend.out
          | (refine (num_any _ _).mono ?_
             rintro e w25 ⟨rfl, rfl⟩
             go_wp2_with fail
             exact Hend.out)
      · try simp only at he hr4
        subst he
        clear Hre
        have hsd := syncdir_r H16.out.up.good hr4 Hne.out hbz HV.out
        obtain ⟨e8, S8, hS8⟩ : ∃ e S', S7.syncdir (dirOf s) = (e, S') := ⟨_, _, rfl⟩
        have c8 := H16.out.syncdir (dirOf s) Hdz.out (by omega)
        rw [hS8] at hsd c8
        have C8 := Lib.hid c8
        have Hsd := Lib.hid hsd
        clear c8 hsd hS8 hr4
        go_wp2_with fail
        refine (num_any _ _).mono ?_
        rintro e wn9 ⟨rfl, rfl⟩
        go_wp2_with fail
        refine (dir_any _ s hs).mono ?_
        rintro e w17 ⟨rfl, rfl⟩
        go_wp2_with fail
        refine C8.out.mono ?_
        rintro e w18 ⟨rfl, M18, h18, g18⟩
        have H18 := Lib.hid h18
        rw [← g18.fb]
        clear h18 g18 C8 H16
        rcases Hsd.out with ⟨he, hw⟩ | ⟨he, hw⟩
        · try simp only at he hw
          have heb : ((e8 : Nat) : Int) ≠ 0 := by omega
          have hbb : (((e8 : Nat) : Int) == 0) = false := by rw [beq_eq_false_iff_ne]; exact heb
          have hbn : (((e8 : Nat) : Int) != 0) = true := by rw [bne_iff_ne]; exact heb
          clear he Hsd
          go_wp2_with fail
          rcases hw n with hw1 | hw1
          · have Hrd := Lib.hid (read_full H18.out.up.good y hw1)
            clear hw hw1
            refine (H18.out.crash (by omega) n y hn hy).mono ?_
            rintro e w20 ⟨rfl, M20, h20, g20⟩
            have H20 := Lib.hid h20
            rw [← g20.fb]
            clear h20 g20
            go_wp2_with fail
            refine (H20.out.read (by omega) hs Hrd.out hol).mono ?_
            rintro e w21 ⟨b21, g, rfl, hg⟩
            have HN := Lib.hid hg
            have HB := Lib.hid (H20.out.below.trans (b21.mono H20.out.below.size))
            have HO21 := Lib.hid (HO3.out.keep (Cells.of_below HB.out))
            have HF21 := Lib.hid (HF3.out.keep (Cells.of_below HB.out))
            clear b21 hg
            go_wp2_with fail
            refine (same_any o f _ _ _ _ w21 HN.out HF21.out).mono ?_
            rintro e w22 ⟨rfl, hw22⟩
            have B22 : Hid (Below w21.heap.size w21 w22) := Lib.hid (by obtain ⟨nn, rfl⟩ := hw22; exact ⟨rfl, rfl, rfl, Nat.le_refl _, fun _ _ => rfl⟩)
            clear hw22
            go_wp2_with fail
            refine (same_any o o _ _ _ _ w22 (HN.out.keep (Cells.of_below B22.out)) (HO21.out.keep (Cells.of_below B22.out))).mono ?_
            rintro e w23 ⟨rfl, hw23⟩
            have Hend : Hid (P (.returned (.bool true)) w23) := Lib.hid (by
              obtain ⟨nn, rfl⟩ := hw23
              rw [HP.out]
              refine ⟨rfl, ((Hb3.out.trans (HB.out.mono Hb3.out.size)).trans (B22.out.mono (Nat.le_trans Hb3.out.size HB.out.size))).trans ⟨rfl, rfl, rfl, Nat.le_refl _, fun _ _ => rfl⟩⟩)
            clear hw23
            try rw [show (o == o) = true from BEq.rfl]
            generalize (o == f) = bx at *
            clear HN HO21 HF21 HB H20 Hrd B22
            cases bx
            all_goals
              go_wp2_with fail
              refine (num_any _ _).mono ?_
              rintro e w24 ⟨rfl, rfl⟩
              go_wp2_with fail
              first
              | exact Hend.out
              | (refine (num_any _ _).mono ?_
                 rintro e w25 ⟨rfl, rfl⟩
                 go_wp2_with fail
                 exact Hend.out)
          · have Hrd := Lib.hid (read_full H18.out.up.good y hw1)
            clear hw hw1
            refine (H18.out.crash (by omega) n y hn hy).mono ?_
            rintro e w20 ⟨rfl, M20, h20, g20⟩
            have H20 := Lib.hid h20
            rw [← g20.fb]
            clear h20 g20
            go_wp2_with fail
            refine (H20.out.read (by omega) hs Hrd.out hfl).mono ?_
            rintro e w21 ⟨b21, g, rfl, hg⟩
            have HN := Lib.hid hg
            have HB := Lib.hid (H20.out.below.trans (b21.mono H20.out.below.size))
            have HO21 := Lib.hid (HO3.out.keep (Cells.of_below HB.out))
            have HF21 := Lib.hid (HF3.out.keep (Cells.of_below HB.out))
            clear b21 hg
            go_wp2_with fail
            refine (same_any f f _ _ _ _ w21 HN.out HF21.out).mono ?_
            rintro e w22 ⟨rfl, hw22⟩
            have B22 : Hid (Below w21.heap.size w21 w22) := Lib.hid (by obtain ⟨nn, rfl⟩ := hw22; exact ⟨rfl, rfl, rfl, Nat.le_refl _, fun _ _ => rfl⟩)
            clear hw22
            go_wp2_with fail
            refine (same_any f o _ _ _ _ w22 (HN.out.keep (Cells.of_below B22.out)) (HO21.out.keep (Cells.of_below B22.out))).mono ?_
            rintro e w23 ⟨rfl, hw23⟩
            have Hend : Hid (P (.returned (.bool true)) w23) := Lib.hid (by
              obtain ⟨nn, rfl⟩ := hw23
              rw [HP.out]
              refine ⟨rfl, ((Hb3.out.trans (HB.out.mono Hb3.out.size)).trans (B22.out.mono (Nat.le_trans Hb3.out.size HB.out.size))).trans ⟨rfl, rfl, rfl, Nat.le_refl _, fun _ _ => rfl⟩⟩)
            clear hw23
            try rw [show (f == f) = true from BEq.rfl]
            generalize (f == o) = bx at *
            clear HN HO21 HF21 HB H20 Hrd B22
            cases bx
            all_goals
              go_wp2_with fail
              refine (num_any _ _).mono ?_
              rintro e w24 ⟨rfl, rfl⟩
              go_wp2_with fail
              first
              | exact Hend.out
              | (refine (num_any _ _).mono ?_
                 rintro e w25 ⟨rfl, rfl⟩
                 go_wp2_with fail
                 exact Hend.out)
        · try simp only at he hw
          subst he
          have Hrd := Lib.hid (read_full H18.out.up.good y (hw n))
          clear hw Hsd
          go_wp2_with fail
          refine (H18.out.crash (by omega) n y hn hy).mono ?_
          rintro e w20 ⟨rfl, M20, h20, g20⟩
          have H20 := Lib.hid h20
          rw [← g20.fb]
          clear h20 g20
          go_wp2_with fail
          refine (H20.out.read (by omega) hs Hrd.out hfl).mono ?_
          rintro e w21 ⟨b21, g, rfl, hg⟩
          have HN := Lib.hid hg
          have HB := Lib.hid (H20.out.below.trans (b21.mono H20.out.below.size))
          have HO21 := Lib.hid (HO3.out.keep (Cells.of_below HB.out))
          have HF21 := Lib.hid (HF3.out.keep (Cells.of_below HB.out))
          clear b21 hg
          go_wp2_with fail
          refine (same_any f f _ _ _ _ w21 HN.out HF21.out).mono ?_
          rintro e w22 ⟨rfl, hw22⟩
          have B22 : Hid (Below w21.heap.size w21 w22) := Lib.hid (by obtain ⟨nn, rfl⟩ := hw22; exact ⟨rfl, rfl, rfl, Nat.le_refl _, fun _ _ => rfl⟩)
          clear hw22
          go_wp2_with fail
          refine (same_any f o _ _ _ _ w22 (HN.out.keep (Cells.of_below B22.out)) (HO21.out.keep (Cells.of_below B22.out))).mono ?_
          rintro e w23 ⟨rfl, hw23⟩
          have Hend : Hid (P (.returned (.bool true)) w23) := Lib.hid (by
            obtain ⟨nn, rfl⟩ := hw23
            rw [HP.out]
            refine ⟨rfl, ((Hb3.out.trans (HB.out.mono Hb3.out.size)).trans (B22.out.mono (Nat.le_trans Hb3.out.size HB.out.size))).trans ⟨rfl, rfl, rfl, Nat.le_refl _, fun _ _ => rfl⟩⟩)
          clear hw23
          try rw [show (f == f) = true from BEq.rfl]
          generalize (f == o) = bx at *
          clear HN HO21 HF21 HB H20 Hrd B22
          cases bx
          all_goals
            go_wp2_with fail
            refine (num_any _ _).mono ?_
            rintro e w24 ⟨rfl, rfl⟩
            go_wp2_with fail
            first
            | exact Hend.out
            | (refine (num_any _ _).mono ?_
               rintro e w25 ⟨rfl, rfl⟩
               go_wp2_with fail
               exact Hend.out)
end Go.Proofs.YtaolddgnannojaaDoor
