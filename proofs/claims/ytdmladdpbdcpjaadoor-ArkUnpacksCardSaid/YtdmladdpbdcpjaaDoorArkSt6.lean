/-
  The stable sort of a row of files; files by their names, the package's. (Printed by wip/abexp.py.)
-/
import Derived.Test.YtdmladdpbdcpjaaDoorArkSt5
namespace Go.Proofs.YtdmladdpbdcpjaaDoor
open Go.RowKit

set_option linter.unusedSimpArgs false

attribute [local go_sem] lt1 lt2 lt3 lt4 lt5 lt6

theorem blk20_step {lt : FlR → FlR → Bool} {s k A : Nat} {f g : Nat → FlR} (hA : A = k * s) (h : ∀ q, q < k → Srt lt (q * s) ((q + 1) * s) f) (hm : Mv A (A + s) f g) (hs : Srt lt A (A + s) g) : ∀ q, q < k + 1 → Srt lt (q * s) ((q + 1) * s) g := fun q hq => by
  by_cases e : q = k
  · subst e
    rw [Nat.add_mul, Nat.one_mul, ← hA]
    exact hs
  · have hle : (q + 1) * s ≤ k * s := Nat.mul_le_mul_right _ (by omega)
    exact (h q (by omega)).congr fun i _ hi => hm.out (.inl (by omega))
theorem blk_done {lt : FlR → FlR → Bool} {s k n A : Nat} {f g : Nat → FlR} (hA : A = k * s) (h : ∀ q, q < k → Srt lt (q * s) ((q + 1) * s) f) (hm : Mv A n f g) (hs : Srt lt A n g) : Blk lt s n g := fun q => by
  by_cases hq : q < k
  · have hle : (q + 1) * s ≤ k * s := Nat.mul_le_mul_right _ (by omega)
    exact ((h q hq).congr fun i _ hi => hm.out (.inl (by omega))).sub (Nat.le_refl _) (Nat.min_le_left _ _)
  · have hge : k * s ≤ q * s := Nat.mul_le_mul_right _ (by omega)
    exact hs.sub (by omega) (Nat.min_le_right _ _)
theorem insert_int (w : World) (g N a b : Nat) (f : Nat → FlR) {aI bI : Int} (ea : aI = a) (eb : bI = b) (hr : Rw w g N f) (hN : N ≤ 1048576) (hab : a ≤ b) (hb : b ≤ N) :
    Calls Tryd.prog 107 #[.slice (some ⟨g, 0, none⟩) N N, .int .i64 aI, .int .i64 bI, .func (.func 74) #[] #[]] w (SrPost w g N a b f) := by
  subst ea eb
  exact insert_any w g N a b f hr hN hab hb
theorem sym_ints (w : World) (g N a m b : Nat) (f : Nat → FlR) {aI mI bI : Int} (ea : aI = a) (em : mI = m) (eb : bI = b) (hr : Rw w g N f) (hN : N ≤ 1048576) (h1 : a < m) (h2 : m < b) (h3 : b ≤ N) (s1 : Srt ltR a m f) (s2 : Srt ltR m b f) :
    Calls Tryd.prog 108 #[.slice (some ⟨g, 0, none⟩) N N, .int .i64 aI, .int .i64 mI, .int .i64 bI, .func (.func 74) #[] #[]] w (SrPost w g N a b f) := by
  subst ea em eb
  exact sym_any w g N a m b f hr hN h1 h2 h3 s1 s2
def S1Rel (w : World) (g N : Nat) (f : Nat → FlR) (av bv : Value) (wr : World) : Prop :=
  ∃ (k A : Nat) (f' : Nat → FlR), A = k * 20 ∧ A ≤ N ∧ av = .int .i64 A ∧ bv = .int .i64 ((A : Int) + 20) ∧ Mv 0 N f f' ∧ (∀ q, q < k → Srt ltR (q * 20) ((q + 1) * 20) f') ∧ Rw wr g N f' ∧ Fr [g] w wr
def S2Rel (w : World) (g N : Nat) (f : Nat → FlR) (sv : Value) (wr : World) : Prop :=
  ∃ (s : Nat) (f' : Nat → FlR), 20 ≤ s ∧ s ≤ 2 * N + 20 ∧ sv = .int .i64 s ∧ Mv 0 N f f' ∧ Blk ltR s N f' ∧ Rw wr g N f' ∧ Fr [g] w wr
def S3Rel (w : World) (g N s : Nat) (f : Nat → FlR) (av bv : Value) (wr : World) : Prop :=
  ∃ (k A : Nat) (f' : Nat → FlR), A = k * (2 * s) ∧ A ≤ N ∧ av = .int .i64 A ∧ bv = .int .i64 ((A + 2 * s : Nat) : Int) ∧ Mv 0 N f f' ∧ Mix ltR s N k f' ∧ Rw wr g N f' ∧ Fr [g] w wr
set_option maxHeartbeats 4000000 in
set_option maxRecDepth 100000 in
theorem stable_any (w : World) (g N : Nat) (f : Nat → FlR) (hr : Rw w g N f) (hN : N ≤ 1048576) :
    Calls Tryd.prog 95 #[.slice (some ⟨g, 0, none⟩) N N, .int .i64 (N : Nat), CmpV] w (SrPost w g N 0 N f) := by
  have H0 : Hid (S1Rel w g N f (.int .i64 0) (.int .i64 20) w) := Lib.hid ⟨0, 0, f, rfl, by omega, rfl, rfl, Mv.refl _ _ _, fun q hq => absurd hq (by omega), hr, Fr.refl _ _⟩
  clear hr
  unfold CmpV
  go_enter Tryd.func95, Tryd.ntmps95
  go_wp2_with fail
  go_loopw [7, 8] (fun av bv wr => S1Rel w g N f av bv wr) (fun _ bv _ => N + 20 - (intOf bv).toNat)
  case atStart => exact H0.out
  case round =>
    clear H0
    obtain ⟨k, A, f1, hA, hAN, rfl, rfl, hm, hs, hr, hf⟩ := hrel
    have HA := Lib.hid hA
    have Hm := Lib.hid hm
    have Hs := Lib.hid hs
    have Hr := Lib.hid hr
    have Hf := Lib.hid hf
    clear hA hm hs hr hf
    by_cases hle : A + 20 ≤ N
    · have hI : (A : Int) + 20 ≤ N := by omega
      have k1 := IntWalk.i64_in ((A : Int) + 20 + 20) (by omega)
      go_wp2_with fail
      refine (insert_int _ g N A (A + 20) f1 rfl (by omega) Hr.out hN (by omega) hle).mono ?_
      rintro e w1 ⟨rfl, f2, m2, t2, r2, g2⟩
      have Hfin : Hid (S1Rel w g N f (.int .i64 ((A : Int) + 20)) (.int .i64 ((A : Int) + 20 + 20)) w1) := Lib.hid ⟨k + 1, A + 20, f2, by have := HA.out; omega, hle, by simp, by simp, Hm.out.trans (m2.wide (by omega) hle), blk20_step HA.out Hs.out m2 t2, r2, Hf.out.trans g2⟩
      clear m2 t2 r2 g2
      go_wp2_with fail
      go_roundw
      case rel => exact Hfin.out
      case measure => simp [intOf]; omega
    · have hI : ¬ (A : Int) + 20 ≤ N := by omega
      go_wp2_with fail
      refine (insert_int _ g N A N f1 rfl rfl Hr.out hN hAN (Nat.le_refl N)).mono ?_
      rintro e w1 ⟨rfl, f2, m2, t2, r2, g2⟩
      have H2 : Hid (S2Rel w g N f (.int .i64 20) w1) := Lib.hid ⟨20, f2, by omega, by omega, rfl, Hm.out.trans (m2.wide (by omega) (Nat.le_refl N)), blk_done HA.out Hs.out m2 t2, r2, Hf.out.trans g2⟩
      clear m2 t2 r2 g2 Hr Hf Hm Hs HA
      go_wp2_with fail
      go_loopw [6] (fun sv wr => S2Rel w g N f sv wr) (fun sv _ => N - (intOf sv).toNat)
      case atStart => exact H2.out
      case round =>
        clear H2
        obtain ⟨s, f3, hs1, hs2, rfl, hm, hs, hr, hf⟩ := hrel
        by_cases hlt : s < N
        · have hlI : (s : Int) < N := by omega
          have k1 := IntWalk.i64_in (2 * (s : Int)) (by omega)
          have H3 : Hid (S3Rel w g N s f (.int .i64 0) (.int .i64 (2 * (s : Int))) wr) := Lib.hid ⟨0, 0, f3, by omega, by omega, rfl, by congr 1 <;> omega, hm, Mix.start hs, hr, hf⟩
          clear hm hs hr hf
          go_wp2_with fail
          obtain ⟨wo, rfl⟩ : ∃ wo : World, wo = wr := ⟨_, rfl⟩
          go_loopw [7, 8] (fun av bv wr => S3Rel w g N s f av bv wr) (fun _ bv _ => N + 2 * s - (intOf bv).toNat)
          case atStart => exact H3.out
          case round =>
            clear H3
            obtain ⟨k, A, f4, hA, hAN, rfl, rfl, hm, hs, hr, hf⟩ := hrel
            have hh := hs.halves
            rw [← hA] at hh
            have Hh := Lib.hid hh
            have HA := Lib.hid hA
            have Hm := Lib.hid hm
            have Hs := Lib.hid hs
            have Hr := Lib.hid hr
            have Hf := Lib.hid hf
            clear hA hm hs hr hf hh
            have k2 := IntWalk.i64_in ((A : Int) + s) (by omega)
            by_cases hle : A + 2 * s ≤ N
            · have hI : ((A + 2 * s : Nat) : Int) ≤ N := by omega
              have hI' : (A : Int) + 2 * (s : Int) ≤ N := by omega
              have k3 := IntWalk.i64_in ((A : Int) + 2 * (s : Int) + 2 * (s : Int)) (by omega)
              have k4 := IntWalk.i64_in ((A : Int) + 2 * (s : Int)) (by omega)
              go_wp2_with fail
              refine (sym_ints _ g N A (A + s) (A + 2 * s) f4 rfl (by omega) (by omega) Hr.out hN (by omega) (by omega) hle (by have := Hh.out.1; rw [Nat.min_eq_left (by omega)] at this; exact this) (by have := Hh.out.2; rw [Nat.min_eq_left (by omega)] at this; exact this)).mono ?_
              rintro e w2 ⟨rfl, f5, m5, t5, r5, g5⟩
              have Hfin : Hid (S3Rel w g N s f (.int .i64 ((A : Int) + 2 * (s : Int))) (.int .i64 ((A : Int) + 2 * (s : Int) + 2 * (s : Int))) w2) := Lib.hid ⟨k + 1, A + 2 * s, f5, by rw [HA.out, Nat.add_mul, Nat.one_mul], hle, by congr 1 <;> omega, by congr 1 <;> omega, Hm.out.trans (m5.wide (by omega) hle), Hs.out.step (by rw [← HA.out]; exact m5) (by rw [← HA.out]; exact t5), r5, Hf.out.trans g5⟩
              clear m5 t5 r5 g5
              go_wp2_with fail
              go_roundw
              case rel => exact Hfin.out
              case measure => simp [intOf]; omega
            · have hI : ¬ ((A + 2 * s : Nat) : Int) ≤ N := by omega
              have hI' : ¬ (A : Int) + 2 * (s : Int) ≤ N := by omega
              have k5 := IntWalk.i64_in ((s : Int) * 2) (by omega)
              by_cases hmid : A + s < N
              · have hI2 : (A : Int) + s < N := by omega
                go_wp2_with fail
                refine (sym_ints _ g N A (A + s) N f4 rfl (by omega) rfl Hr.out hN (by omega) hmid (Nat.le_refl N) (by have := Hh.out.1; rw [Nat.min_eq_left (by omega)] at this; exact this) (by have := Hh.out.2; rw [Nat.min_eq_right (by omega)] at this; exact this)).mono ?_
                rintro e w2 ⟨rfl, f5, m5, t5, r5, g5⟩
                have Hfin : Hid (S2Rel w g N f (.int .i64 ((s : Int) * 2)) w2) := Lib.hid ⟨2 * s, f5, by omega, by omega, by congr 1 <;> omega, Hm.out.trans (m5.wide (by omega) (Nat.le_refl N)), Hs.out.done (by rw [← HA.out]; exact m5) (by rw [← HA.out]; exact t5), r5, Hf.out.trans g5⟩
                clear m5 t5 r5 g5
                go_wp2_with fail
                exact ⟨Hfin.out, by simp only [intOf]; omega⟩
              · have hI2 : ¬ (A : Int) + s < N := by omega
                have Hfin : Hid (S2Rel w g N f (.int .i64 ((s : Int) * 2)) wr) := Lib.hid ⟨2 * s, f4, by omega, by omega, by congr 1 <;> omega, Hm.out, Hs.out.done (by exact Mv.refl _ _ _) (by rw [← HA.out]; have := Hh.out.1; rw [Nat.min_eq_right (by omega)] at this; exact this), Hr.out, Hf.out⟩
                go_wp2_with fail
                exact ⟨Hfin.out, by simp only [intOf]; omega⟩
        · have hlI : ¬ (s : Int) < N := by omega
          have Hfin : Hid (SrPost w g N 0 N f (.returned (.tuple #[])) wr) := Lib.hid ⟨rfl, f3, hm, hs.all (by omega), hr, hf⟩
          clear hm hs hr hf
          go_wp2_with fail
          go_end0
          exact Hfin.out
theorem sort_any (w : World) (g N : Nat) (f : Nat → FlR) (hr : Rw w g N f) (hN : N ≤ 1048576) :
    Calls Tryd.prog 73 #[.slice (some ⟨g, 0, none⟩) N N, CmpV] w (SrPost w g N 0 N f) := by
  have Hr := Lib.hid hr
  clear hr
  unfold CmpV
  go_enter Tryd.func73, Tryd.ntmps73
  go_wp2_with fail
  refine (stable_any _ g N f Hr.out hN).mono ?_
  rintro e w1 ⟨rfl, h⟩
  have H := Lib.hid h
  clear h
  go_wp2_with fail
  go_end0
  exact ⟨rfl, H.out⟩
end Go.Proofs.YtdmladdpbdcpjaaDoor
