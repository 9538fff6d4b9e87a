/-
  There and back: the law ArkBack. (Printed by wip/ark/genback.py, wip/abexp.py.)
-/
import Derived.Test.YtdmladdpbdcpjaaDoorArkOne
import Derived.Test.YtdmladdpbdcpjaaDoorArkFrom
namespace Go.Proofs.YtdmladdpbdcpjaaDoor
open Go.RowKit

set_option linter.unusedSimpArgs false

attribute [local go_sem] lt1 lt2 lt3 lt4 lt5 lt6

/-- (as in ArkSums, under names of its own: ArkSums leans on all of the reference) -/
def FrOk (S b : List UInt8) (k : Nat) : Prop := (b64 b = S ∧ k = 0) ∨ ((∀ x, b64 x ≠ S) ∧ b = [] ∧ k = 15)
def FrPost (S : List UInt8) (w : World) (e : Ending) (w' : World) : Prop := ∃ b k A c, FrOk S b k ∧ e = .returned (.tuple #[.slice A b.length c, .int .i64 (k : Nat)]) ∧ Bs w' A c b ∧ Below w.heap.size w w'
theorem fr_post {S : List UInt8} {w w' : World} {e : Ending} (h : FromPost S w e w') : FrPost S w e w' := by
  obtain ⟨hb, ⟨b, v, h1, rfl, h2⟩ | ⟨h1, rfl⟩⟩ := h
  · obtain ⟨A, c, rfl, h3⟩ := own_bs h2
    exact ⟨b, 0, A, c, .inl ⟨h1, rfl⟩, rfl, h3, hb⟩
  · exact ⟨[], 15, none, 0, .inr ⟨h1, rfl, rfl⟩, rfl, Bs.none_ _, hb⟩
theorem equal_at (x : List UInt8) (A1 A2 : Option Addr) (n c1 c2 : Nat) (w : World) (hn : x.length = n) (h1 : Bs w A1 c1 x) (h2 : Bs w A2 c2 x) :
    Calls Tryd.prog 20 #[.slice A1 n c1, .slice A2 n c2] w fun e w' => e = .returned (.bool true) ∧ Below w.heap.size w w' := by
  have h := same_any x x A1 A2 c1 c2 w h1 h2
  rw [hn, beq_self_eq_true] at h
  exact h.mono fun e w' ⟨h1, k, h2⟩ => ⟨h1, by rw [h2]; exact ⟨rfl, rfl, rfl, Nat.le_refl _, fun _ _ => rfl⟩⟩
theorem Bs.under {w w' : World} {A : Option Addr} {c : Nat} {x : List UInt8} (h : Bs w A c x) (hb : Below w.heap.size w w') : Bs w' A c x := h.keep (Cells.of_below hb)
theorem from_back {b B : List UInt8} {k : Nat} (h : FrOk (b64 b) B k) : B = b ∧ k = 0 := by
  rcases h with ⟨h1, rfl⟩ | ⟨h1, _⟩
  · exact ⟨by rw [← dec_ref B, h1, dec_ref], rfl⟩
  · exact absurd rfl (h1 b)
set_option maxHeartbeats 8000000 in
set_option maxRecDepth 100000 in
theorem back_any (w : World) (A B : Option Addr) (c C : Nat) (l : List Fl) (b : List UInt8) (s : ByteArray) (hm : MaxL w) (hf : FlAt w A c l) (hsz : ∀ p ∈ l, p.1.size ≤ maxLen) (hb : Bs w B C b) :
    Calls Tryd.prog 9 #[.slice A l.length c, .slice B b.length C, .string s] w (OnePost w) := by
  have Hm := Lib.hid hm
  have Hf := Lib.hid hf
  have Hsz := Lib.hid hsz
  have HD := Lib.hid hb
  have hll : l.length ≤ 9223372036854775807 := by have h1 := hf.le; have h2 := hf.big; unfold maxLen at h2; omega
  have hdl := hb.len_le
  have hss := s.size
  clear hm hf hsz hb hss
  go_enter Tryd.func9, Tryd.ntmps9
  go_wp2_with fail
  refine (first_any w Hm.out).mono ?_
  rintro e w1 ⟨rfl, hb⟩
  have Hb := Lib.hid hb
  clear hb
  go_wp2_with fail
  refine (few_any w1 A c l 4000 (by omega) (Hf.out.below Hb.out) Hsz.out).mono ?_
  rintro e w2 ⟨rfl, rfl⟩
  by_cases hfew : sumFl l ≤ 4000
  case neg =>
    rw [decide_eq_false hfew]
    clear hfew
    go_wp2_with fail
    go_ret
    exact ⟨rfl, Hb.out⟩
  rw [decide_eq_true hfew]
  have hmem := fun p hp => Nat.le_trans (sumFl_mem (l := l) p hp) hfew
  have Hmem := Lib.hid hmem
  clear hfew hmem
  by_cases h110 : 110 < l.length
  · have hI : (110 : Int) < l.length := by omega
    go_wp2_with fail
    go_ret
    exact ⟨rfl, Hb.out⟩
  have hI : ¬ (110 : Int) < l.length := by omega
  by_cases h20 : 20000 < b.length
  · have hJ : (20000 : Int) < b.length := by omega
    go_wp2_with fail
    go_ret
    exact ⟨rfl, Hb.out⟩
  have hJ : ¬ (20000 : Int) < b.length := by omega
  by_cases h40 : 4000 < s.size
  · have hK : (4000 : Int) < s.size := by omega
    go_wp2_with fail
    go_ret
    exact ⟨rfl, Hb.out⟩
  have hK : ¬ (4000 : Int) < s.size := by omega
  have hp1 := packed_any w1 A c l (Hf.out.below Hb.out) (Hm.out.below Hb.out) (fun p hp => by have := Hmem.out p hp; omega) (fun p hp => by have := Hmem.out p hp; omega) (by omega)
  have HP1 := Lib.hid hp1
  clear hp1
  go_wp2_with fail
  refine HP1.out.mono ?_
  rintro e w3 ⟨v3, rfl, hrow3, hb3⟩
  have HB3 := Lib.hid (Hb.out.trans (hb3.mono Hb.out.size))
  obtain ⟨A3, c3, rfl, hbs3⟩ := own_bs hrow3
  have Hbs3 := Lib.hid hbs3
  obtain ⟨n1, hn1⟩ : ∃ n, n = packErr l (byName l) := ⟨_, rfl⟩
  rw [← hn1]
  have Hn1 := Lib.hid hn1
  clear hrow3 hbs3 hb3 HP1 hn1 Hb hll
  by_cases hz : n1 = 0
  case neg =>
    have e1 : ((n1 : Int) == 0) = false := by rw [beq_eq_false_iff_ne]; omega
    have HU := HB3
    clear HB3 hz Hbs3 Hn1
    go_wp2_with fail
    refine (num_any _ _).mono ?_
    rintro e w4 ⟨rfl, rfl⟩
    go_wp2_with fail
    have hun := unpack_any w3 b B C (HD.out.under HU.out) (by omega) (Hm.out.below HU.out)
    refine hun.mono ?_
    rintro e w10 ⟨v10, rfl, hfm, hb10⟩
    have HU10 := Lib.hid (HU.out.trans (hb10.mono HU.out.size))
    obtain ⟨A10, c10, rfl, hf10⟩ := hfm.own.files
    have Hf10 := Lib.hid hf10
    obtain ⟨n10, hn10⟩ : ∃ n, n = unErr b := ⟨_, rfl⟩
    rw [← hn10]
    have Hn10 := Lib.hid hn10
    clear hb10 hfm hf10 hn10 hun HU
    by_cases hz10 : n10 = 0
    case neg =>
      have e10 : ((n10 : Int) == 0) = false := by rw [beq_eq_false_iff_ne]; omega
      clear hz10 Hf10
      have HT := HU10
      clear HU10
      go_wp2_with fail
      refine (num_any _ _).mono ?_
      rintro e w11 ⟨rfl, rfl⟩
      go_wp2_with fail
      obtain ⟨X1, hX1⟩ : ∃ X, X = (⟨(b64 b).toArray⟩ : ByteArray) := ⟨_, rfl⟩
      have HX1 := Lib.hid hX1
      have hx := base64_any w10 b B C (HD.out.under HT.out) (by omega)
      rw [← hX1] at hx
      have hX1s : X1.size ≤ 1048576 := by
        rw [hX1]
        have := b64_length b
        show (b64 b).toArray.size ≤ _
        rw [List.size_toArray, this]
        omega
      clear hX1
      refine hx.mono ?_
      rintro e w20 ⟨rfl, hb⟩
      have HT20 := Lib.hid (HT.out.trans (hb.mono HT.out.size))
      clear hx hb HT
      go_wp2_with fail
      refine (from_any w20 X1 hX1s).mono ?_
      rintro e w21 hp
      obtain ⟨b1, k1, A1, c1, hok, rfl, hb1, hb⟩ := fr_post hp
      rw [HX1.out] at hok
      obtain ⟨rfl, rfl⟩ := from_back hok
      have HB1 := Lib.hid hb1
      have HT21 := Lib.hid (HT20.out.trans (hb.mono HT20.out.size))
      clear hp hb hb1 hok HT20 HX1 hX1s
      go_wp2_with fail
      refine (from_any w21 s (by omega)).mono ?_
      rintro e w22 hp
      obtain ⟨b2, k2, A2, c2, hok, rfl, hb2, hb⟩ := fr_post hp
      have Hok := Lib.hid hok
      have HB2 := Lib.hid hb2
      have HB1' := Lib.hid (HB1.out.under hb)
      have HT22 := Lib.hid (HT21.out.trans (hb.mono HT21.out.size))
      clear hp hb hb2 hok HT21 HB1
      go_wp2_with fail
      refine (equal_at b1 A1 B b1.length c1 C w22 rfl HB1'.out (HD.out.under HT22.out)).mono ?_
      rintro e w23 ⟨rfl, hb⟩
      have HB2' := Lib.hid (HB2.out.under hb)
      have HT23 := Lib.hid (HT22.out.trans (hb.mono HT22.out.size))
      clear hb HT22 HB2 HB1'
      go_wp2_with fail
      refine (num_any _ _).mono ?_
      rintro e w24 ⟨rfl, rfl⟩
      go_wp2_with fail
      refine (num_any _ _).mono ?_
      rintro e w24 ⟨rfl, rfl⟩
      by_cases hk2 : k2 = 0
      · subst hk2
        have hS : b64 b2 = s.data.toList := by
          rcases Hok.out with ⟨h1, _⟩ | ⟨_, _, h3⟩
          · exact h1
          · cases h3
        have hSe : (⟨(b64 b2).toArray⟩ : ByteArray) = s := by rw [hS]
        have hb2l : b2.length ≤ 1048576 := by
          have h1 := b64_length b2
          rw [hS] at h1
          have h2 : s.data.toList.length = s.size := rfl
          omega
        have hx := base64_any _ b2 A2 c2 HB2'.out hb2l
        rw [hSe] at hx
        have Hx := Lib.hid hx
        have hse : (s.toList == s.toList) = true := by simp
        clear hx hS hSe hb2l Hok
        go_wp2_with fail
        refine Hx.out.mono ?_
        rintro e w25 ⟨rfl, hb⟩
        have HT25 := Lib.hid (HT23.out.trans (hb.mono HT23.out.size))
        clear hb Hx HT23
        go_wp2_with fail
        go_ret
        exact ⟨rfl, HT25.out⟩
      · have e7 : ((k2 : Int) != 0) = true := by rw [bne_iff_ne]; omega
        clear hk2
        go_wp2_with fail
        go_ret
        exact ⟨rfl, HT23.out⟩
    case pos =>
      subst hz10
      obtain ⟨h1, h2, h3, h4, h5, h6, h7⟩ := pack_unpack Hn10.out.symm
      have h8 := names_size h3
      obtain ⟨Y, hY⟩ : ∃ Y, Y = unFiles b := ⟨_, rfl⟩
      rw [← hY] at h1 h2 h3 h4 h5 h7 h8 Hf10 ⊢
      have hpp : packed Y (byName Y) = b := by unfold packed; rw [if_pos h1, h2]
      have hp2 := packed_any w10 A10 c10 Y Hf10.out (Hm.out.below HU10.out) (fun p hp => by have := h8 p hp; omega) (fun p hp => by have := h5 p hp; omega) (by omega)
      unfold PackPost at hp2
      rw [hpp, h1] at hp2
      have HP2 := Lib.hid hp2
      clear hp2 hpp h1 h2 h3 h4 h5 h6 h7 h8 hY
      go_wp2_with fail
      refine (num_any _ _).mono ?_
      rintro e w11 ⟨rfl, rfl⟩
      go_wp2_with fail
      refine HP2.out.mono ?_
      rintro e w12 ⟨v12, rfl, hrow12, hb12⟩
      have HU12 := Lib.hid (HU10.out.trans (hb12.mono HU10.out.size))
      obtain ⟨A12, c12, rfl, hbs12⟩ := own_bs hrow12
      have Hbs12 := Lib.hid hbs12
      clear hrow12 hbs12 hb12 HP2 HU10
      go_wp2_with fail
      refine (num_any _ _).mono ?_
      rintro e w13 ⟨rfl, rfl⟩
      go_wp2_with fail
      refine (equal_at b A12 B b.length c12 C w12 rfl Hbs12.out (HD.out.under HU12.out)).mono ?_
      rintro e w14 ⟨rfl, hb14⟩
      have HT := Lib.hid (HU12.out.trans (hb14.mono HU12.out.size))
      clear hb14 HU12 Hbs12
      go_wp2_with fail
      obtain ⟨X1, hX1⟩ : ∃ X, X = (⟨(b64 b).toArray⟩ : ByteArray) := ⟨_, rfl⟩
      have HX1 := Lib.hid hX1
      have hx := base64_any w14 b B C (HD.out.under HT.out) (by omega)
      rw [← hX1] at hx
      have hX1s : X1.size ≤ 1048576 := by
        rw [hX1]
        have := b64_length b
        show (b64 b).toArray.size ≤ _
        rw [List.size_toArray, this]
        omega
      clear hX1
      refine hx.mono ?_
      rintro e w20 ⟨rfl, hb⟩
      have HT20 := Lib.hid (HT.out.trans (hb.mono HT.out.size))
      clear hx hb HT
      go_wp2_with fail
      refine (from_any w20 X1 hX1s).mono ?_
      rintro e w21 hp
      obtain ⟨b1, k1, A1, c1, hok, rfl, hb1, hb⟩ := fr_post hp
      rw [HX1.out] at hok
      obtain ⟨rfl, rfl⟩ := from_back hok
      have HB1 := Lib.hid hb1
      have HT21 := Lib.hid (HT20.out.trans (hb.mono HT20.out.size))
      clear hp hb hb1 hok HT20 HX1 hX1s
      go_wp2_with fail
      refine (from_any w21 s (by omega)).mono ?_
      rintro e w22 hp
      obtain ⟨b2, k2, A2, c2, hok, rfl, hb2, hb⟩ := fr_post hp
      have Hok := Lib.hid hok
      have HB2 := Lib.hid hb2
      have HB1' := Lib.hid (HB1.out.under hb)
      have HT22 := Lib.hid (HT21.out.trans (hb.mono HT21.out.size))
      clear hp hb hb2 hok HT21 HB1
      go_wp2_with fail
      refine (equal_at b1 A1 B b1.length c1 C w22 rfl HB1'.out (HD.out.under HT22.out)).mono ?_
      rintro e w23 ⟨rfl, hb⟩
      have HB2' := Lib.hid (HB2.out.under hb)
      have HT23 := Lib.hid (HT22.out.trans (hb.mono HT22.out.size))
      clear hb HT22 HB2 HB1'
      go_wp2_with fail
      refine (num_any _ _).mono ?_
      rintro e w24 ⟨rfl, rfl⟩
      go_wp2_with fail
      refine (num_any _ _).mono ?_
      rintro e w24 ⟨rfl, rfl⟩
      by_cases hk2 : k2 = 0
      · subst hk2
        have hS : b64 b2 = s.data.toList := by
          rcases Hok.out with ⟨h1, _⟩ | ⟨_, _, h3⟩
          · exact h1
          · cases h3
        have hSe : (⟨(b64 b2).toArray⟩ : ByteArray) = s := by rw [hS]
        have hb2l : b2.length ≤ 1048576 := by
          have h1 := b64_length b2
          rw [hS] at h1
          have h2 : s.data.toList.length = s.size := rfl
          omega
        have hx := base64_any _ b2 A2 c2 HB2'.out hb2l
        rw [hSe] at hx
        have Hx := Lib.hid hx
        have hse : (s.toList == s.toList) = true := by simp
        clear hx hS hSe hb2l Hok
        go_wp2_with fail
        refine Hx.out.mono ?_
        rintro e w25 ⟨rfl, hb⟩
        have HT25 := Lib.hid (HT23.out.trans (hb.mono HT23.out.size))
        clear hb Hx HT23
        go_wp2_with fail
        go_ret
        exact ⟨rfl, HT25.out⟩
      · have e7 : ((k2 : Int) != 0) = true := by rw [bne_iff_ne]; omega
        clear hk2
        go_wp2_with fail
        go_ret
        exact ⟨rfl, HT23.out⟩
  case pos =>
    subst hz
    obtain ⟨_, hnl, hnR, hl100, hlen⟩ := (packErr_perm (List.Perm.refl l)).2 Hn1.out.symm
    have hpk1 : packed l (byName l) = packB (byName l) := by unfold packed; rw [if_pos Hn1.out.symm]
    rw [hpk1] at Hbs3 ⊢
    obtain ⟨hu1, hu2⟩ := unpack_pack hnl hl100 hlen
    obtain ⟨K, hK1⟩ : ∃ K, K = packB (byName l) := ⟨_, rfl⟩
    rw [← hK1] at Hbs3 hlen hu1 hu2 ⊢
    have hun3 := unpack_any w3 K A3 c3 Hbs3.out (by omega) (Hm.out.below HB3.out)
    unfold UnPost at hun3
    rw [hu1, hu2] at hun3
    have Hun3 := Lib.hid hun3
    clear hun3 hu1 hu2 hlen hnl hnR hpk1 hK1 Hn1
    go_wp2_with fail
    refine (num_any _ _).mono ?_
    rintro e w4 ⟨rfl, rfl⟩
    go_wp2_with fail
    refine Hun3.out.mono ?_
    rintro e w4 ⟨v4, rfl, hfm4, hb4⟩
    have HB4 := Lib.hid (HB3.out.trans (hb4.mono HB3.out.size))
    obtain ⟨A4, c4, rfl, hf4⟩ := hfm4.own.files
    have Hf4 := Lib.hid hf4
    clear hb4 hfm4 hf4 HB3 Hun3
    go_wp2_with fail
    refine (num_any _ _).mono ?_
    rintro e w5 ⟨rfl, rfl⟩
    go_wp2_with fail
    refine (byname_ref w4 A c l (Hf.out.below HB4.out) (by omega)).mono ?_
    rintro e w6 ⟨v6, rfl, ho6, hb6⟩
    obtain ⟨A6, c6, rfl, hf6⟩ := ho6.files
    have HB6 := Lib.hid (HB4.out.trans (hb6.mono HB4.out.size))
    have hsm := samef_any (byName l) (byName l) A4 A6 c4 c6 w6 (Hf4.out.below hb6) hf6
    rw [decide_eq_true rfl] at hsm
    have Hsm := Lib.hid hsm
    clear ho6 hb6 hf6 hsm HB4 Hf4
    go_wp2_with fail
    refine Hsm.out.mono ?_
    rintro e w7 ⟨rfl, nd2, rfl⟩
    have HU : Hid (Below w.heap.size w (w6.drewN nd2)) := Lib.hid ⟨HB6.out.os, HB6.out.tape, HB6.out.output, HB6.out.size, HB6.out.block⟩
    clear Hsm HB6
    go_wp2_with fail
    have hun := unpack_any (w6.drewN nd2) b B C (HD.out.under HU.out) (by omega) (Hm.out.below HU.out)
    refine hun.mono ?_
    rintro e w10 ⟨v10, rfl, hfm, hb10⟩
    have HU10 := Lib.hid (HU.out.trans (hb10.mono HU.out.size))
    obtain ⟨A10, c10, rfl, hf10⟩ := hfm.own.files
    have Hf10 := Lib.hid hf10
    obtain ⟨n10, hn10⟩ : ∃ n, n = unErr b := ⟨_, rfl⟩
    rw [← hn10]
    have Hn10 := Lib.hid hn10
    clear hb10 hfm hf10 hn10 hun HU
    by_cases hz10 : n10 = 0
    case neg =>
      have e10 : ((n10 : Int) == 0) = false := by rw [beq_eq_false_iff_ne]; omega
      clear hz10 Hf10
      have HT := HU10
      clear HU10
      go_wp2_with fail
      refine (num_any _ _).mono ?_
      rintro e w11 ⟨rfl, rfl⟩
      go_wp2_with fail
      obtain ⟨X1, hX1⟩ : ∃ X, X = (⟨(b64 b).toArray⟩ : ByteArray) := ⟨_, rfl⟩
      have HX1 := Lib.hid hX1
      have hx := base64_any w10 b B C (HD.out.under HT.out) (by omega)
      rw [← hX1] at hx
      have hX1s : X1.size ≤ 1048576 := by
        rw [hX1]
        have := b64_length b
        show (b64 b).toArray.size ≤ _
        rw [List.size_toArray, this]
        omega
      clear hX1
      refine hx.mono ?_
      rintro e w20 ⟨rfl, hb⟩
      have HT20 := Lib.hid (HT.out.trans (hb.mono HT.out.size))
      clear hx hb HT
      go_wp2_with fail
      refine (from_any w20 X1 hX1s).mono ?_
      rintro e w21 hp
      obtain ⟨b1, k1, A1, c1, hok, rfl, hb1, hb⟩ := fr_post hp
      rw [HX1.out] at hok
      obtain ⟨rfl, rfl⟩ := from_back hok
      have HB1 := Lib.hid hb1
      have HT21 := Lib.hid (HT20.out.trans (hb.mono HT20.out.size))
      clear hp hb hb1 hok HT20 HX1 hX1s
      go_wp2_with fail
      refine (from_any w21 s (by omega)).mono ?_
      rintro e w22 hp
      obtain ⟨b2, k2, A2, c2, hok, rfl, hb2, hb⟩ := fr_post hp
      have Hok := Lib.hid hok
      have HB2 := Lib.hid hb2
      have HB1' := Lib.hid (HB1.out.under hb)
      have HT22 := Lib.hid (HT21.out.trans (hb.mono HT21.out.size))
      clear hp hb hb2 hok HT21 HB1
      go_wp2_with fail
      refine (equal_at b1 A1 B b1.length c1 C w22 rfl HB1'.out (HD.out.under HT22.out)).mono ?_
      rintro e w23 ⟨rfl, hb⟩
      have HB2' := Lib.hid (HB2.out.under hb)
      have HT23 := Lib.hid (HT22.out.trans (hb.mono HT22.out.size))
      clear hb HT22 HB2 HB1'
      go_wp2_with fail
      refine (num_any _ _).mono ?_
      rintro e w24 ⟨rfl, rfl⟩
      go_wp2_with fail
      refine (num_any _ _).mono ?_
      rintro e w24 ⟨rfl, rfl⟩
      by_cases hk2 : k2 = 0
      · subst hk2
        have hS : b64 b2 = s.data.toList := by
          rcases Hok.out with ⟨h1, _⟩ | ⟨_, _, h3⟩
          · exact h1
          · cases h3
        have hSe : (⟨(b64 b2).toArray⟩ : ByteArray) = s := by rw [hS]
        have hb2l : b2.length ≤ 1048576 := by
          have h1 := b64_length b2
          rw [hS] at h1
          have h2 : s.data.toList.length = s.size := rfl
          omega
        have hx := base64_any _ b2 A2 c2 HB2'.out hb2l
        rw [hSe] at hx
        have Hx := Lib.hid hx
        have hse : (s.toList == s.toList) = true := by simp
        clear hx hS hSe hb2l Hok
        go_wp2_with fail
        refine Hx.out.mono ?_
        rintro e w25 ⟨rfl, hb⟩
        have HT25 := Lib.hid (HT23.out.trans (hb.mono HT23.out.size))
        clear hb Hx HT23
        go_wp2_with fail
        go_ret
        exact ⟨rfl, HT25.out⟩
      · have e7 : ((k2 : Int) != 0) = true := by rw [bne_iff_ne]; omega
        clear hk2
        go_wp2_with fail
        go_ret
        exact ⟨rfl, HT23.out⟩
    case pos =>
      subst hz10
      obtain ⟨h1, h2, h3, h4, h5, h6, h7⟩ := pack_unpack Hn10.out.symm
      have h8 := names_size h3
      obtain ⟨Y, hY⟩ : ∃ Y, Y = unFiles b := ⟨_, rfl⟩
      rw [← hY] at h1 h2 h3 h4 h5 h7 h8 Hf10 ⊢
      have hpp : packed Y (byName Y) = b := by unfold packed; rw [if_pos h1, h2]
      have hp2 := packed_any w10 A10 c10 Y Hf10.out (Hm.out.below HU10.out) (fun p hp => by have := h8 p hp; omega) (fun p hp => by have := h5 p hp; omega) (by omega)
      unfold PackPost at hp2
      rw [hpp, h1] at hp2
      have HP2 := Lib.hid hp2
      clear hp2 hpp h1 h2 h3 h4 h5 h6 h7 h8 hY
      go_wp2_with fail
      refine (num_any _ _).mono ?_
      rintro e w11 ⟨rfl, rfl⟩
      go_wp2_with fail
      refine HP2.out.mono ?_
      rintro e w12 ⟨v12, rfl, hrow12, hb12⟩
      have HU12 := Lib.hid (HU10.out.trans (hb12.mono HU10.out.size))
      obtain ⟨A12, c12, rfl, hbs12⟩ := own_bs hrow12
      have Hbs12 := Lib.hid hbs12
      clear hrow12 hbs12 hb12 HP2 HU10
      go_wp2_with fail
      refine (num_any _ _).mono ?_
      rintro e w13 ⟨rfl, rfl⟩
      go_wp2_with fail
      refine (equal_at b A12 B b.length c12 C w12 rfl Hbs12.out (HD.out.under HU12.out)).mono ?_
      rintro e w14 ⟨rfl, hb14⟩
      have HT := Lib.hid (HU12.out.trans (hb14.mono HU12.out.size))
      clear hb14 HU12 Hbs12
      go_wp2_with fail
      obtain ⟨X1, hX1⟩ : ∃ X, X = (⟨(b64 b).toArray⟩ : ByteArray) := ⟨_, rfl⟩
      have HX1 := Lib.hid hX1
      have hx := base64_any w14 b B C (HD.out.under HT.out) (by omega)
      rw [← hX1] at hx
      have hX1s : X1.size ≤ 1048576 := by
        rw [hX1]
        have := b64_length b
        show (b64 b).toArray.size ≤ _
        rw [List.size_toArray, this]
        omega
      clear hX1
      refine hx.mono ?_
      rintro e w20 ⟨rfl, hb⟩
      have HT20 := Lib.hid (HT.out.trans (hb.mono HT.out.size))
      clear hx hb HT
      go_wp2_with fail
      refine (from_any w20 X1 hX1s).mono ?_
      rintro e w21 hp
      obtain ⟨b1, k1, A1, c1, hok, rfl, hb1, hb⟩ := fr_post hp
      rw [HX1.out] at hok
      obtain ⟨rfl, rfl⟩ := from_back hok
      have HB1 := Lib.hid hb1
      have HT21 := Lib.hid (HT20.out.trans (hb.mono HT20.out.size))
      clear hp hb hb1 hok HT20 HX1 hX1s
      go_wp2_with fail
      refine (from_any w21 s (by omega)).mono ?_
      rintro e w22 hp
      obtain ⟨b2, k2, A2, c2, hok, rfl, hb2, hb⟩ := fr_post hp
      have Hok := Lib.hid hok
      have HB2 := Lib.hid hb2
      have HB1' := Lib.hid (HB1.out.under hb)
      have HT22 := Lib.hid (HT21.out.trans (hb.mono HT21.out.size))
      clear hp hb hb2 hok HT21 HB1
      go_wp2_with fail
      refine (equal_at b1 A1 B b1.length c1 C w22 rfl HB1'.out (HD.out.under HT22.out)).mono ?_
      rintro e w23 ⟨rfl, hb⟩
      have HB2' := Lib.hid (HB2.out.under hb)
      have HT23 := Lib.hid (HT22.out.trans (hb.mono HT22.out.size))
      clear hb HT22 HB2 HB1'
      go_wp2_with fail
      refine (num_any _ _).mono ?_
      rintro e w24 ⟨rfl, rfl⟩
      go_wp2_with fail
      refine (num_any _ _).mono ?_
      rintro e w24 ⟨rfl, rfl⟩
      by_cases hk2 : k2 = 0
      · subst hk2
        have hS : b64 b2 = s.data.toList := by
          rcases Hok.out with ⟨h1, _⟩ | ⟨_, _, h3⟩
          · exact h1
          · cases h3
        have hSe : (⟨(b64 b2).toArray⟩ : ByteArray) = s := by rw [hS]
        have hb2l : b2.length ≤ 1048576 := by
          have h1 := b64_length b2
          rw [hS] at h1
          have h2 : s.data.toList.length = s.size := rfl
          omega
        have hx := base64_any _ b2 A2 c2 HB2'.out hb2l
        rw [hSe] at hx
        have Hx := Lib.hid hx
        have hse : (s.toList == s.toList) = true := by simp
        clear hx hS hSe hb2l Hok
        go_wp2_with fail
        refine Hx.out.mono ?_
        rintro e w25 ⟨rfl, hb⟩
        have HT25 := Lib.hid (HT23.out.trans (hb.mono HT23.out.size))
        clear hb Hx HT23
        go_wp2_with fail
        go_ret
        exact ⟨rfl, HT25.out⟩
      · have e7 : ((k2 : Int) != 0) = true := by rw [bne_iff_ne]; omega
        clear hk2
        go_wp2_with fail
        go_ret
        exact ⟨rfl, HT23.out⟩
end Go.Proofs.YtdmladdpbdcpjaaDoor
