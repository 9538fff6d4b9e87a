/-
  The merge of two sorted neighbours of a row. (Printed by wip/gensym5.py and wip/abexp.py.)
-/
import Derived.Test.YtdmladdpbdcpjaaDoorArkStA
namespace Go.Proofs.YtdmladdpbdcpjaaDoor
open Go.RowKit

set_option linter.unusedSimpArgs false

attribute [local go_sem] lt1 lt2 lt3 lt4 lt5 lt6

def B5Rel (w : World) (g N lo hi p : Nat) (f : Nat → FlR) (iv jv : Value) (wr : World) : Prop :=
  ∃ i j : Nat, lo ≤ i ∧ i ≤ j ∧ j ≤ hi ∧ iv = .int .i64 i ∧ jv = .int .i64 j ∧ (∀ c, lo ≤ c → c < i → ltR (f (p - c)) (f c) = false) ∧ (∀ c, j ≤ c → c < hi → ltR (f (p - c)) (f c) = true) ∧ Rw wr g N f ∧ Fr [g] w wr
/-- the search sees a front in order and a back in order -/
theorem half_lo {a m b lo hi p : Nat} {f : Nat → FlR} (sU : Srt ltR a m f) (sV : Srt ltR m b f) (h1 : a ≤ lo) (h2 : hi ≤ m) (h3 : p < b + lo) (h4 : m + hi ≤ p + 1) {c h : Nat} (hc : lo ≤ c) (hch : c ≤ h) (hh : h < hi) (hl : ltR (f (p - h)) (f h) = false) : ltR (f (p - c)) (f c) = false :=
  ordR.trans _ _ _ (sU.le ordR (by omega) hch (by omega)) (ordR.trans _ _ _ hl (sV.le ordR (by omega) (show p - h ≤ p - c by omega) (by omega)))
theorem half_hi {a m b lo hi p : Nat} {f : Nat → FlR} (sU : Srt ltR a m f) (sV : Srt ltR m b f) (h1 : a ≤ lo) (h2 : hi ≤ m) (h3 : p < b + lo) (h4 : m + hi ≤ p + 1) {c h : Nat} (hc : lo ≤ h) (hch : h ≤ c) (hh : c < hi) (hl : ltR (f (p - h)) (f h) = true) : ltR (f (p - c)) (f c) = true := by
  cases h7 : ltR (f (p - c)) (f c) with
  | true => rfl
  | false =>
    rw [half_lo sU sV h1 h2 h3 h4 hc hch hh h7] at hl
    cases hl
def SymAt (n : Nat) : Prop := ∀ (w : World) (g N a m b : Nat) (f : Nat → FlR), b - a < n → Rw w g N f → N ≤ 1048576 → a < m → m < b → b ≤ N → Srt ltR a m f → Srt ltR m b f →
  Calls Tryd.prog 108 #[.slice (some ⟨g, 0, none⟩) N N, .int .i64 (a : Nat), .int .i64 (m : Nat), .int .i64 (b : Nat), CmpV] w (SrPost w g N a b f)
theorem sym_int {n : Nat} (H : SymAt n) (w : World) (g N a m b : Nat) (f : Nat → FlR) {aI mI bI : Int} (ea : aI = a) (em : mI = m) (eb : bI = b) (hn : b - a < n) (hr : Rw w g N f) (hN : N ≤ 1048576) (h1 : a < m) (h2 : m < b) (h3 : b ≤ N) (s1 : Srt ltR a m f) (s2 : Srt ltR m b f) :
  Calls Tryd.prog 108 #[.slice (some ⟨g, 0, none⟩) N N, .int .i64 aI, .int .i64 mI, .int .i64 bI, .func (.func 74) #[] #[]] w (SrPost w g N a b f) := by
  subst ea em eb
  exact H w g N a m b f hn hr hN h1 h2 h3 s1 s2
theorem rotate_at (w : World) (g N a m b : Nat) (f : Nat → FlR) (F : Value) {aI mI bI : Int} (ea : aI = a) (em : mI = m) (eb : bI = b) (hr : Rw w g N f) (hN : N ≤ 1048576) (h1 : a < m) (h2 : m < b) (h3 : b ≤ N) :
    Calls Tryd.prog 116 #[.slice (some ⟨g, 0, none⟩) N N, .int .i64 aI, .int .i64 mI, .int .i64 bI, F] w (SwPost w g N (rot f a m b)) := by
  subst ea em eb
  exact rotate_any w g N a m b f F hr hN h1 h2 h3

set_option maxHeartbeats 8000000 in
set_option maxRecDepth 100000 in
theorem sym_gen1 (w : World) (g N a m b : Nat) (f : Nat → FlR) (IH : SymAt (b - a)) (hr : Rw w g N f) (hN : N ≤ 1048576) (hma : a + 1 < m) (hmb : m + 1 < b) (hb : b ≤ N) (sU : Srt ltR a m f) (sV : Srt ltR m b f) (hc : (a + b) / 2 < m) :
    Calls Tryd.prog 108 #[.slice (some ⟨g, 0, none⟩) N N, .int .i64 (a : Nat), .int .i64 (m : Nat), .int .i64 (b : Nat), CmpV] w (SrPost w g N a b f) := by
  obtain ⟨mid, hmid⟩ : ∃ mid, mid = (a + b) / 2 := ⟨_, rfl⟩
  rw [← hmid] at hc
  have m1 : 2 * mid ≤ a + b := by omega
  have m2 : a + b ≤ 2 * mid + 1 := by omega
  obtain ⟨lo, hlo0⟩ : ∃ lo, lo = mid + m - b := ⟨_, rfl⟩
  obtain ⟨hi, hhi0⟩ : ∃ hi, hi = mid := ⟨_, rfl⟩
  obtain ⟨p, hp⟩ : ∃ p, p = mid + m - 1 := ⟨_, rfl⟩
  have H0 : Hid (B5Rel w g N lo hi p f (.int .i64 ((mid : Int) + m - b)) (.int .i64 (mid : Int)) w) := Lib.hid ⟨lo, hi, by omega, by omega, by omega, (by congr 1; omega), (by congr 1; omega), fun q h1 h2 => absurd h2 (by omega), fun q h1 h2 => absurd h2 (by omega), hr, Fr.refl _ _⟩
  have HC : Hid (∀ s, lo ≤ s → s ≤ hi → (∀ c, lo ≤ c → c < s → ltR (f (p - c)) (f c) = false) → (∀ c, s ≤ c → c < hi → ltR (f (p - c)) (f c) = true) → Cut ltR a mid b s (mid + m - s) (rot f s m (mid + m - s))) := Lib.hid fun s h1 h2 h3 h4 => by
    have := cut_of (s := s) ordR (by omega) (by omega) sU sV (by rw [← hmid, if_pos hc]; omega) (by rw [← hmid, if_pos hc]; omega) (by rw [← hmid, if_pos hc]; intro c x1 x2; have := h3 c (by omega) x2; rw [hp] at this; exact this) (by rw [← hmid, if_pos hc]; intro c x1 x2; have := h4 c x1 (by omega); rw [hp] at this; exact this)
    rw [← hmid] at this
    exact this
  have i1 : a ≤ lo := by omega
  have i2 : hi ≤ m := by omega
  have i3 : p < b + lo := by omega
  have i4 : m + hi ≤ p + 1 := by omega
  have i5 : hi ≤ mid := by omega
  have i6 : lo ≤ hi := by omega
  have ht : ((m : Int) - a == 1) = false := by rw [beq_eq_false_iff_ne]; omega
  have ht2 : ((b : Int) - m == 1) = false := by rw [beq_eq_false_iff_ne]; omega
  have k0 := IntWalk.i64_in ((m : Int) - a) (by omega)
  have k1 := IntWalk.i64_in ((b : Int) - m) (by omega)
  have k2 := IntWalk.i64_in ((a : Int) + b) (by omega)
  have k3 : ((a : Int) + b) / 2 = mid := by omega
  have k4 := IntWalk.i64_in ((mid : Int) + m) (by omega)
  have k5 := IntWalk.i64_in ((mid : Int) + m - b) (by omega)
  have k6 := IntWalk.i64_in ((mid : Int) + m - 1) (by omega)
  have hcI : (mid : Int) < m := by omega
  have HS := Lib.hid (And.intro sU sV)
  have Hp := Lib.hid hp
  clear hr sU sV hmid hlo0 hhi0 hp hc
  unfold CmpV
  go_enter Tryd.func108, Tryd.ntmps108
  go_wp2_with fail
  go_loopw [20, 21] (fun iv jv wr => B5Rel w g N lo hi p f iv jv wr) (fun iv jv _ => (intOf jv).toNat - (intOf iv).toNat)
  case atStart => exact H0.out
  case round =>
    clear H0 ht ht2 k0 k1 k2 k3 k4 k5 k6 hcI
    obtain ⟨i, j, h1, h2, h3, rfl, rfl, hlo, hhi, hr, hf⟩ := hrel
    by_cases hlt : i < j
    · have hlI : (i : Int) < j := by omega
      obtain ⟨h, hh⟩ : ∃ h, h = (i + j) / 2 := ⟨_, rfl⟩
      have g1 : i ≤ h := by omega
      have g2 : h < j := by omega
      have hp := Hp.out
      have k1 := IntWalk.i64_in ((i : Int) + j) (by omega)
      have hI2 : ((i : Int) + j) / 2 = h := by omega
      have b1 : (h : Int) < N := by omega
      have k2 := IntWalk.i64_in ((h : Int) + 1) (by omega)
      have k3 := IntWalk.i64_in ((mid : Int) + m - 1 - h) (by omega)
      have b2 : (mid : Int) + m - 1 - h < N := by omega
      have b3 : (0 : Int) ≤ (mid : Int) + m - 1 - h := by omega
      have b4 : (h : Int) ≤ (mid : Int) + m - 1 := by omega
      have t1 : ((mid : Int) + m - 1 - h).toNat = p - h := by omega
      have Hlo := Lib.hid hlo
      have Hhi := Lib.hid hhi
      obtain ⟨c1, c2⟩ := hr.at_ (i := p - h) (by omega)
      obtain ⟨d1, d2⟩ := hr.at_ (i := h) (by omega)
      obtain ⟨x, hx⟩ : ∃ x, x = f (p - h) := ⟨_, rfl⟩
      obtain ⟨y, hy⟩ : ∃ y, y = f (h) := ⟨_, rfl⟩
      rw [← hx] at c1 c2
      rw [← hy] at d1 d2
      have Hx := Lib.hid hx
      have Hy := Lib.hid hy
      have Hr := Lib.hid hr
      have Hf := Lib.hid hf
      unfold FlR.sl at c2 d2
      have C1 := Lib.hid c1
      have C2 := Lib.hid c2
      have D1 := Lib.hid d1
      have D2 := Lib.hid d2
      clear hx hy hr hf c1 c2 d1 d2
      clear hlo hhi hh hp
      go_wp2_with fail
      with_reducible refine g_mixx [(0, 0), (1, 0), (2, 0), (3, 0), (4, 0), (5, 0), (6, 0), (7, 0), (8, 0), (9, 0), (10, 0), (11, 2), (12, 0), (13, 0)] (fun w' => (w'.cell? ⟨g, (p - h) * 2, none⟩ = some (.string x.nm) ∧ w'.cell? ⟨g, (p - h) * 2 + 1, none⟩ = some (.slice x.ad x.n x.c)) ∧ w'.cell? ⟨g, (h) * 2, none⟩ = some (.string y.nm) ∧ w'.cell? ⟨g, (h) * 2 + 1, none⟩ = some (.slice y.ad y.n y.c)) 0 _ rfl (by kernel_rfl) (by kernel_rfl) ?_ ?_
      · exact ⟨⟨C1.out, C2.out⟩, D1.out, D2.out⟩
      intro OPS HD
      simp only [mixX, nthO, consX]
      iterate 11 ((with_reducible refine x_val (v := ?_) ?_ ?_ ?_); rotate_left; (rintro _ ⟨⟨c1, c2⟩, d1, d2⟩; (try simp only [k1, k3]); go_simp; first | done | rfl | (constructor <;> rfl)); exact ⟨⟨C1.out, C2.out⟩, D1.out, D2.out⟩)
      with_reducible refine x_one ?_
      refine l_call ?_ ((cmp_at _ x y).mono ?_)
      · go_simp
      rintro e w1 ⟨⟨kk, rfl, hk⟩, hb1⟩
      have hb1' : Below wr.heap.size wr w1 := ⟨hb1.os, hb1.tape, hb1.output, hb1.size, hb1.block⟩
      obtain ⟨hr1, hf1⟩ := Hf.out.rw_below Hr.out hb1'
      have hcell := Cells.of_below hb1'
      refine ⟨_, rfl, ?_⟩
      refine x_keep ⟨⟨hcell _ _ C1.out, hcell _ _ C2.out⟩, hcell _ _ D1.out, hcell _ _ D2.out⟩ ?_
      have HH := Lib.hid (And.intro hr1 hf1)
      have C3 := Lib.hid (hcell _ _ C1.out)
      have C4 := Lib.hid (hcell _ _ C2.out)
      have D3 := Lib.hid (hcell _ _ D1.out)
      have D4 := Lib.hid (hcell _ _ D2.out)
      clear hr1 hf1 hcell hb1 hb1' Hr Hf C1 C2 D1 D2
      cases hl : ltR x y with
      | true =>
        rw [hl] at hk
        have hkd := hk.symm
        have Hl := Lib.hid hl
        clear hk hl
        iterate 2 ((with_reducible refine x_val (v := ?_) ?_ ?_ ?_); rotate_left; (rintro _ _; (try simp only [hkd]); go_simp; first | done | rfl | (constructor <;> rfl)); exact ⟨⟨C3.out, C4.out⟩, D3.out, D4.out⟩)
        with_reducible refine x_end ?_
        simp only [Act.put, List.setIfInBounds_toArray, List.set_cons_zero, List.set_cons_succ]
        clear hkd C3 C4 D3 D4
        have hnew : ∀ q, h ≤ q → q < hi → ltR (f (p - q)) (f q) = true := fun q q1 q2 => by
          have h6 := Hl.out
          rw [Hx.out, Hy.out] at h6
          exact half_hi HS.out.1 HS.out.2 i1 i2 i3 i4 (by omega) q1 q2 h6
        have Hfin : Hid (B5Rel w g N lo hi p f (.int .i64 i) (.int .i64 h) w1) := Lib.hid ⟨i, h, h1, g1, by omega, rfl, rfl, Hlo.out, hnew, HH.out.1, HH.out.2⟩
        clear hnew
        go_wp2_with fail
        go_roundw
        case rel => exact Hfin.out
        case measure => simp [intOf]; omega
      | false =>
        rw [hl] at hk
        have hkd := hk.symm
        have Hl := Lib.hid hl
        clear hk hl
        iterate 2 ((with_reducible refine x_val (v := ?_) ?_ ?_ ?_); rotate_left; (rintro _ _; (try simp only [hkd]); go_simp; first | done | rfl | (constructor <;> rfl)); exact ⟨⟨C3.out, C4.out⟩, D3.out, D4.out⟩)
        with_reducible refine x_end ?_
        simp only [Act.put, List.setIfInBounds_toArray, List.set_cons_zero, List.set_cons_succ]
        clear hkd C3 C4 D3 D4
        have hnew : ∀ q, lo ≤ q → q < h + 1 → ltR (f (p - q)) (f q) = false := fun q q1 q2 => by
          have h6 := Hl.out
          rw [Hx.out, Hy.out] at h6
          exact half_lo HS.out.1 HS.out.2 i1 i2 i3 i4 q1 (show q ≤ h by omega) (by omega) h6
        have Hfin : Hid (B5Rel w g N lo hi p f (.int .i64 ((h : Int) + 1)) (.int .i64 j) w1) := Lib.hid ⟨h + 1, j, by omega, by omega, h3, by simp, rfl, hnew, Hhi.out, HH.out.1, HH.out.2⟩
        clear hnew
        go_wp2_with fail
        go_roundw
        case rel => exact Hfin.out
        case measure => simp [intOf]; omega
    · obtain rfl : i = j := by omega
      have hC := HC.out i h1 h3 hlo hhi
      have c1 := hC.h1
      have c2 := hC.h2
      have c3 := hC.h3
      have c4 := hC.h4
      have k1 := IntWalk.i64_in ((mid : Int) + m - i) (by omega)
      obtain ⟨e, he⟩ : ∃ e, e = mid + m - i := ⟨_, rfl⟩
      have k2 : (mid : Int) + m - i = e := by omega
      have e2 : e + i = mid + m := by omega
      have c4e : e ≤ b := by omega
      rw [← he] at hC
      have HCt := Lib.hid hC
      clear hlo hhi hC he HC
      have q1 : i ≤ m := by omega
      have q2 : m ≤ e := by omega
      have Hr := Lib.hid hr
      have Hf := Lib.hid hf
      clear hr hf
      by_cases h3 : (i : Int) < m
      · by_cases h4 : (m : Int) < e
        · go_wp2_with fail
          refine (rotate_at _ g N i m e f _ rfl rfl rfl Hr.out hN (by omega) (by omega) (by omega)).mono ?_
          rintro ee w2 ⟨rfl, r1, g1⟩
          have R1 := Lib.hid (And.intro r1 (Hf.out.trans g1))
          clear r1 g1 Hr Hf
          by_cases h5 : (a : Int) < i
          · by_cases h6 : (i : Int) < mid
            · go_wp2_with fail
              refine (sym_int IH _ g N a i mid (rot f i m e) rfl rfl rfl (by omega) R1.out.1 hN (by omega) (by omega) (by omega) HCt.out.s1 HCt.out.s2).mono ?_
              rintro ee w3 ⟨rfl, f2, m2, t2, r2, g2⟩
              have M2 := Lib.hid m2
              have T2 := Lib.hid t2
              have R2 := Lib.hid (And.intro r2 (R1.out.2.trans g2))
              clear m2 t2 r2 g2 R1
              by_cases h7 : (mid : Int) < e
              · by_cases h8 : (e : Int) < b
                · go_wp2_with fail
                  refine (sym_int IH _ g N mid e b f2 rfl (by omega) rfl (by omega) R2.out.1 hN (by omega) (by omega) hb (HCt.out.right M2.out).1 (HCt.out.right M2.out).2).mono ?_
                  rintro ee w4 ⟨rfl, f3, m3, t3, r3, g3⟩
                  have Hfin : Hid (SrPost w g N a b f (.returned (.tuple #[])) w4) := Lib.hid ⟨rfl, f3, ((rot_mv f (a := i) (m := m) (b := e) q1 q2).wide c1 c4e).trans ((M2.out.wide (Nat.le_refl a) (by omega)).trans (m3.wide (by omega) (Nat.le_refl b))), HCt.out.whole M2.out m3 T2.out t3, r3, R2.out.2.trans g3⟩
                  clear m3 t3 r3 g3
                  go_wp2_with fail
                  all_goals (go_end0; exact Hfin.out)
                · have T3 : Hid (Srt ltR mid b f2) := Lib.hid (by
                      have e7 : e = b := by omega
                      have := (HCt.out.right M2.out).1
                      rw [e7] at this
                      exact this)
                  have Hfin : Hid (SrPost w g N a b f (.returned (.tuple #[])) w3) := Lib.hid ⟨rfl, f2, ((rot_mv f (a := i) (m := m) (b := e) q1 q2).wide c1 c4e).trans (M2.out.wide (Nat.le_refl a) (by omega)), HCt.out.whole M2.out (Mv.refl mid b f2) T2.out T3.out, R2.out.1, R2.out.2⟩
                  go_wp2_with fail
                  all_goals (go_end0; exact Hfin.out)
              · have T3 : Hid (Srt ltR mid b f2) := Lib.hid (by
                    have e7 : e = mid := by omega
                    have := (HCt.out.right M2.out).2
                    rw [e7] at this
                    exact this)
                have Hfin : Hid (SrPost w g N a b f (.returned (.tuple #[])) w3) := Lib.hid ⟨rfl, f2, ((rot_mv f (a := i) (m := m) (b := e) q1 q2).wide c1 c4e).trans (M2.out.wide (Nat.le_refl a) (by omega)), HCt.out.whole M2.out (Mv.refl mid b f2) T2.out T3.out, R2.out.1, R2.out.2⟩
                go_wp2_with fail
                all_goals (go_end0; exact Hfin.out)
            · exfalso
              have e7 : i = mid := by omega
              omega
          · have T2 : Hid (Srt ltR a mid (rot f i m e)) := Lib.hid (by
                have e7 : i = a := by omega
                have := HCt.out.s2
                rw [show Srt ltR a mid (rot f i m e) = Srt ltR i mid (rot f i m e) by rw [e7]]
                exact this)
            have M2 := Lib.hid (Mv.refl a mid (rot f i m e))
            have R2 := R1
            clear R1
            generalize hf2 : rot f i m e = f2 at T2 R2 M2
            have M2 : Hid (Mv a mid (rot f i m e) f2) := Lib.hid (by rw [hf2]; exact Mv.refl _ _ _)
            clear hf2
            by_cases h7 : (mid : Int) < e
            · by_cases h8 : (e : Int) < b
              · go_wp2_with fail
                refine (sym_int IH _ g N mid e b f2 rfl (by omega) rfl (by omega) R2.out.1 hN (by omega) (by omega) hb (HCt.out.right M2.out).1 (HCt.out.right M2.out).2).mono ?_
                rintro ee w4 ⟨rfl, f3, m3, t3, r3, g3⟩
                have Hfin : Hid (SrPost w g N a b f (.returned (.tuple #[])) w4) := Lib.hid ⟨rfl, f3, ((rot_mv f (a := i) (m := m) (b := e) q1 q2).wide c1 c4e).trans ((M2.out.wide (Nat.le_refl a) (by omega)).trans (m3.wide (by omega) (Nat.le_refl b))), HCt.out.whole M2.out m3 T2.out t3, r3, R2.out.2.trans g3⟩
                clear m3 t3 r3 g3
                go_wp2_with fail
                all_goals (go_end0; exact Hfin.out)
              · have T3 : Hid (Srt ltR mid b f2) := Lib.hid (by
                    have e7 : e = b := by omega
                    have := (HCt.out.right M2.out).1
                    rw [e7] at this
                    exact this)
                have Hfin : Hid (SrPost w g N a b f (.returned (.tuple #[])) w2) := Lib.hid ⟨rfl, f2, ((rot_mv f (a := i) (m := m) (b := e) q1 q2).wide c1 c4e).trans (M2.out.wide (Nat.le_refl a) (by omega)), HCt.out.whole M2.out (Mv.refl mid b f2) T2.out T3.out, R2.out.1, R2.out.2⟩
                go_wp2_with fail
                all_goals (go_end0; exact Hfin.out)
            · have T3 : Hid (Srt ltR mid b f2) := Lib.hid (by
                  have e7 : e = mid := by omega
                  have := (HCt.out.right M2.out).2
                  rw [e7] at this
                  exact this)
              have Hfin : Hid (SrPost w g N a b f (.returned (.tuple #[])) w2) := Lib.hid ⟨rfl, f2, ((rot_mv f (a := i) (m := m) (b := e) q1 q2).wide c1 c4e).trans (M2.out.wide (Nat.le_refl a) (by omega)), HCt.out.whole M2.out (Mv.refl mid b f2) T2.out T3.out, R2.out.1, R2.out.2⟩
              go_wp2_with fail
              all_goals (go_end0; exact Hfin.out)
        · have R1 : Hid (Rw wr g N (rot f i m e) ∧ Fr [g] w wr) := Lib.hid ⟨by rw [rot_nil f q1 q2 (by omega)]; exact Hr.out, Hf.out⟩
          clear Hr Hf
          by_cases h5 : (a : Int) < i
          · by_cases h6 : (i : Int) < mid
            · go_wp2_with fail
              refine (sym_int IH _ g N a i mid (rot f i m e) rfl rfl rfl (by omega) R1.out.1 hN (by omega) (by omega) (by omega) HCt.out.s1 HCt.out.s2).mono ?_
              rintro ee w3 ⟨rfl, f2, m2, t2, r2, g2⟩
              have M2 := Lib.hid m2
              have T2 := Lib.hid t2
              have R2 := Lib.hid (And.intro r2 (R1.out.2.trans g2))
              clear m2 t2 r2 g2 R1
              by_cases h7 : (mid : Int) < e
              · by_cases h8 : (e : Int) < b
                · go_wp2_with fail
                  refine (sym_int IH _ g N mid e b f2 rfl (by omega) rfl (by omega) R2.out.1 hN (by omega) (by omega) hb (HCt.out.right M2.out).1 (HCt.out.right M2.out).2).mono ?_
                  rintro ee w4 ⟨rfl, f3, m3, t3, r3, g3⟩
                  have Hfin : Hid (SrPost w g N a b f (.returned (.tuple #[])) w4) := Lib.hid ⟨rfl, f3, ((rot_mv f (a := i) (m := m) (b := e) q1 q2).wide c1 c4e).trans ((M2.out.wide (Nat.le_refl a) (by omega)).trans (m3.wide (by omega) (Nat.le_refl b))), HCt.out.whole M2.out m3 T2.out t3, r3, R2.out.2.trans g3⟩
                  clear m3 t3 r3 g3
                  go_wp2_with fail
                  all_goals (go_end0; exact Hfin.out)
                · have T3 : Hid (Srt ltR mid b f2) := Lib.hid (by
                      have e7 : e = b := by omega
                      have := (HCt.out.right M2.out).1
                      rw [e7] at this
                      exact this)
                  have Hfin : Hid (SrPost w g N a b f (.returned (.tuple #[])) w3) := Lib.hid ⟨rfl, f2, ((rot_mv f (a := i) (m := m) (b := e) q1 q2).wide c1 c4e).trans (M2.out.wide (Nat.le_refl a) (by omega)), HCt.out.whole M2.out (Mv.refl mid b f2) T2.out T3.out, R2.out.1, R2.out.2⟩
                  go_wp2_with fail
                  all_goals (go_end0; exact Hfin.out)
              · have T3 : Hid (Srt ltR mid b f2) := Lib.hid (by
                    have e7 : e = mid := by omega
                    have := (HCt.out.right M2.out).2
                    rw [e7] at this
                    exact this)
                have Hfin : Hid (SrPost w g N a b f (.returned (.tuple #[])) w3) := Lib.hid ⟨rfl, f2, ((rot_mv f (a := i) (m := m) (b := e) q1 q2).wide c1 c4e).trans (M2.out.wide (Nat.le_refl a) (by omega)), HCt.out.whole M2.out (Mv.refl mid b f2) T2.out T3.out, R2.out.1, R2.out.2⟩
                go_wp2_with fail
                all_goals (go_end0; exact Hfin.out)
            · have T2 : Hid (Srt ltR a mid (rot f i m e)) := Lib.hid (by
                  have e7 : i = mid := by omega
                  have := HCt.out.s1
                  rw [show Srt ltR a mid (rot f i m e) = Srt ltR a i (rot f i m e) by rw [e7]]
                  exact this)
              have M2 := Lib.hid (Mv.refl a mid (rot f i m e))
              have R2 := R1
              clear R1
              generalize hf2 : rot f i m e = f2 at T2 R2 M2
              have M2 : Hid (Mv a mid (rot f i m e) f2) := Lib.hid (by rw [hf2]; exact Mv.refl _ _ _)
              clear hf2
              by_cases h7 : (mid : Int) < e
              · by_cases h8 : (e : Int) < b
                · go_wp2_with fail
                  refine (sym_int IH _ g N mid e b f2 rfl (by omega) rfl (by omega) R2.out.1 hN (by omega) (by omega) hb (HCt.out.right M2.out).1 (HCt.out.right M2.out).2).mono ?_
                  rintro ee w4 ⟨rfl, f3, m3, t3, r3, g3⟩
                  have Hfin : Hid (SrPost w g N a b f (.returned (.tuple #[])) w4) := Lib.hid ⟨rfl, f3, ((rot_mv f (a := i) (m := m) (b := e) q1 q2).wide c1 c4e).trans ((M2.out.wide (Nat.le_refl a) (by omega)).trans (m3.wide (by omega) (Nat.le_refl b))), HCt.out.whole M2.out m3 T2.out t3, r3, R2.out.2.trans g3⟩
                  clear m3 t3 r3 g3
                  go_wp2_with fail
                  all_goals (go_end0; exact Hfin.out)
                · have T3 : Hid (Srt ltR mid b f2) := Lib.hid (by
                      have e7 : e = b := by omega
                      have := (HCt.out.right M2.out).1
                      rw [e7] at this
                      exact this)
                  have Hfin : Hid (SrPost w g N a b f (.returned (.tuple #[])) wr) := Lib.hid ⟨rfl, f2, ((rot_mv f (a := i) (m := m) (b := e) q1 q2).wide c1 c4e).trans (M2.out.wide (Nat.le_refl a) (by omega)), HCt.out.whole M2.out (Mv.refl mid b f2) T2.out T3.out, R2.out.1, R2.out.2⟩
                  go_wp2_with fail
                  all_goals (go_end0; exact Hfin.out)
              · have T3 : Hid (Srt ltR mid b f2) := Lib.hid (by
                    have e7 : e = mid := by omega
                    have := (HCt.out.right M2.out).2
                    rw [e7] at this
                    exact this)
                have Hfin : Hid (SrPost w g N a b f (.returned (.tuple #[])) wr) := Lib.hid ⟨rfl, f2, ((rot_mv f (a := i) (m := m) (b := e) q1 q2).wide c1 c4e).trans (M2.out.wide (Nat.le_refl a) (by omega)), HCt.out.whole M2.out (Mv.refl mid b f2) T2.out T3.out, R2.out.1, R2.out.2⟩
                go_wp2_with fail
                all_goals (go_end0; exact Hfin.out)
          · have T2 : Hid (Srt ltR a mid (rot f i m e)) := Lib.hid (by
                have e7 : i = a := by omega
                have := HCt.out.s2
                rw [show Srt ltR a mid (rot f i m e) = Srt ltR i mid (rot f i m e) by rw [e7]]
                exact this)
            have M2 := Lib.hid (Mv.refl a mid (rot f i m e))
            have R2 := R1
            clear R1
            generalize hf2 : rot f i m e = f2 at T2 R2 M2
            have M2 : Hid (Mv a mid (rot f i m e) f2) := Lib.hid (by rw [hf2]; exact Mv.refl _ _ _)
            clear hf2
            by_cases h7 : (mid : Int) < e
            · by_cases h8 : (e : Int) < b
              · go_wp2_with fail
                refine (sym_int IH _ g N mid e b f2 rfl (by omega) rfl (by omega) R2.out.1 hN (by omega) (by omega) hb (HCt.out.right M2.out).1 (HCt.out.right M2.out).2).mono ?_
                rintro ee w4 ⟨rfl, f3, m3, t3, r3, g3⟩
                have Hfin : Hid (SrPost w g N a b f (.returned (.tuple #[])) w4) := Lib.hid ⟨rfl, f3, ((rot_mv f (a := i) (m := m) (b := e) q1 q2).wide c1 c4e).trans ((M2.out.wide (Nat.le_refl a) (by omega)).trans (m3.wide (by omega) (Nat.le_refl b))), HCt.out.whole M2.out m3 T2.out t3, r3, R2.out.2.trans g3⟩
                clear m3 t3 r3 g3
                go_wp2_with fail
                all_goals (go_end0; exact Hfin.out)
              · have T3 : Hid (Srt ltR mid b f2) := Lib.hid (by
                    have e7 : e = b := by omega
                    have := (HCt.out.right M2.out).1
                    rw [e7] at this
                    exact this)
                have Hfin : Hid (SrPost w g N a b f (.returned (.tuple #[])) wr) := Lib.hid ⟨rfl, f2, ((rot_mv f (a := i) (m := m) (b := e) q1 q2).wide c1 c4e).trans (M2.out.wide (Nat.le_refl a) (by omega)), HCt.out.whole M2.out (Mv.refl mid b f2) T2.out T3.out, R2.out.1, R2.out.2⟩
                go_wp2_with fail
                all_goals (go_end0; exact Hfin.out)
            · have T3 : Hid (Srt ltR mid b f2) := Lib.hid (by
                  have e7 : e = mid := by omega
                  have := (HCt.out.right M2.out).2
                  rw [e7] at this
                  exact this)
              have Hfin : Hid (SrPost w g N a b f (.returned (.tuple #[])) wr) := Lib.hid ⟨rfl, f2, ((rot_mv f (a := i) (m := m) (b := e) q1 q2).wide c1 c4e).trans (M2.out.wide (Nat.le_refl a) (by omega)), HCt.out.whole M2.out (Mv.refl mid b f2) T2.out T3.out, R2.out.1, R2.out.2⟩
              go_wp2_with fail
              all_goals (go_end0; exact Hfin.out)
      · have R1 : Hid (Rw wr g N (rot f i m e) ∧ Fr [g] w wr) := Lib.hid ⟨by rw [rot_nil f q1 q2 (by omega)]; exact Hr.out, Hf.out⟩
        clear Hr Hf
        by_cases h5 : (a : Int) < i
        · by_cases h6 : (i : Int) < mid
          · go_wp2_with fail
            refine (sym_int IH _ g N a i mid (rot f i m e) rfl rfl rfl (by omega) R1.out.1 hN (by omega) (by omega) (by omega) HCt.out.s1 HCt.out.s2).mono ?_
            rintro ee w3 ⟨rfl, f2, m2, t2, r2, g2⟩
            have M2 := Lib.hid m2
            have T2 := Lib.hid t2
            have R2 := Lib.hid (And.intro r2 (R1.out.2.trans g2))
            clear m2 t2 r2 g2 R1
            by_cases h7 : (mid : Int) < e
            · by_cases h8 : (e : Int) < b
              · go_wp2_with fail
                refine (sym_int IH _ g N mid e b f2 rfl (by omega) rfl (by omega) R2.out.1 hN (by omega) (by omega) hb (HCt.out.right M2.out).1 (HCt.out.right M2.out).2).mono ?_
                rintro ee w4 ⟨rfl, f3, m3, t3, r3, g3⟩
                have Hfin : Hid (SrPost w g N a b f (.returned (.tuple #[])) w4) := Lib.hid ⟨rfl, f3, ((rot_mv f (a := i) (m := m) (b := e) q1 q2).wide c1 c4e).trans ((M2.out.wide (Nat.le_refl a) (by omega)).trans (m3.wide (by omega) (Nat.le_refl b))), HCt.out.whole M2.out m3 T2.out t3, r3, R2.out.2.trans g3⟩
                clear m3 t3 r3 g3
                go_wp2_with fail
                all_goals (go_end0; exact Hfin.out)
              · have T3 : Hid (Srt ltR mid b f2) := Lib.hid (by
                    have e7 : e = b := by omega
                    have := (HCt.out.right M2.out).1
                    rw [e7] at this
                    exact this)
                have Hfin : Hid (SrPost w g N a b f (.returned (.tuple #[])) w3) := Lib.hid ⟨rfl, f2, ((rot_mv f (a := i) (m := m) (b := e) q1 q2).wide c1 c4e).trans (M2.out.wide (Nat.le_refl a) (by omega)), HCt.out.whole M2.out (Mv.refl mid b f2) T2.out T3.out, R2.out.1, R2.out.2⟩
                go_wp2_with fail
                all_goals (go_end0; exact Hfin.out)
            · have T3 : Hid (Srt ltR mid b f2) := Lib.hid (by
                  have e7 : e = mid := by omega
                  have := (HCt.out.right M2.out).2
                  rw [e7] at this
                  exact this)
              have Hfin : Hid (SrPost w g N a b f (.returned (.tuple #[])) w3) := Lib.hid ⟨rfl, f2, ((rot_mv f (a := i) (m := m) (b := e) q1 q2).wide c1 c4e).trans (M2.out.wide (Nat.le_refl a) (by omega)), HCt.out.whole M2.out (Mv.refl mid b f2) T2.out T3.out, R2.out.1, R2.out.2⟩
              go_wp2_with fail
              all_goals (go_end0; exact Hfin.out)
          · have T2 : Hid (Srt ltR a mid (rot f i m e)) := Lib.hid (by
                have e7 : i = mid := by omega
                have := HCt.out.s1
                rw [show Srt ltR a mid (rot f i m e) = Srt ltR a i (rot f i m e) by rw [e7]]
                exact this)
            have M2 := Lib.hid (Mv.refl a mid (rot f i m e))
            have R2 := R1
            clear R1
            generalize hf2 : rot f i m e = f2 at T2 R2 M2
            have M2 : Hid (Mv a mid (rot f i m e) f2) := Lib.hid (by rw [hf2]; exact Mv.refl _ _ _)
            clear hf2
            by_cases h7 : (mid : Int) < e
            · by_cases h8 : (e : Int) < b
              · go_wp2_with fail
                refine (sym_int IH _ g N mid e b f2 rfl (by omega) rfl (by omega) R2.out.1 hN (by omega) (by omega) hb (HCt.out.right M2.out).1 (HCt.out.right M2.out).2).mono ?_
                rintro ee w4 ⟨rfl, f3, m3, t3, r3, g3⟩
                have Hfin : Hid (SrPost w g N a b f (.returned (.tuple #[])) w4) := Lib.hid ⟨rfl, f3, ((rot_mv f (a := i) (m := m) (b := e) q1 q2).wide c1 c4e).trans ((M2.out.wide (Nat.le_refl a) (by omega)).trans (m3.wide (by omega) (Nat.le_refl b))), HCt.out.whole M2.out m3 T2.out t3, r3, R2.out.2.trans g3⟩
                clear m3 t3 r3 g3
                go_wp2_with fail
                all_goals (go_end0; exact Hfin.out)
              · have T3 : Hid (Srt ltR mid b f2) := Lib.hid (by
                    have e7 : e = b := by omega
                    have := (HCt.out.right M2.out).1
                    rw [e7] at this
                    exact this)
                have Hfin : Hid (SrPost w g N a b f (.returned (.tuple #[])) wr) := Lib.hid ⟨rfl, f2, ((rot_mv f (a := i) (m := m) (b := e) q1 q2).wide c1 c4e).trans (M2.out.wide (Nat.le_refl a) (by omega)), HCt.out.whole M2.out (Mv.refl mid b f2) T2.out T3.out, R2.out.1, R2.out.2⟩
                go_wp2_with fail
                all_goals (go_end0; exact Hfin.out)
            · have T3 : Hid (Srt ltR mid b f2) := Lib.hid (by
                  have e7 : e = mid := by omega
                  have := (HCt.out.right M2.out).2
                  rw [e7] at this
                  exact this)
              have Hfin : Hid (SrPost w g N a b f (.returned (.tuple #[])) wr) := Lib.hid ⟨rfl, f2, ((rot_mv f (a := i) (m := m) (b := e) q1 q2).wide c1 c4e).trans (M2.out.wide (Nat.le_refl a) (by omega)), HCt.out.whole M2.out (Mv.refl mid b f2) T2.out T3.out, R2.out.1, R2.out.2⟩
              go_wp2_with fail
              all_goals (go_end0; exact Hfin.out)
        · have T2 : Hid (Srt ltR a mid (rot f i m e)) := Lib.hid (by
              have e7 : i = a := by omega
              have := HCt.out.s2
              rw [show Srt ltR a mid (rot f i m e) = Srt ltR i mid (rot f i m e) by rw [e7]]
              exact this)
          have M2 := Lib.hid (Mv.refl a mid (rot f i m e))
          have R2 := R1
          clear R1
          generalize hf2 : rot f i m e = f2 at T2 R2 M2
          have M2 : Hid (Mv a mid (rot f i m e) f2) := Lib.hid (by rw [hf2]; exact Mv.refl _ _ _)
          clear hf2
          by_cases h7 : (mid : Int) < e
          · by_cases h8 : (e : Int) < b
            · go_wp2_with fail
              refine (sym_int IH _ g N mid e b f2 rfl (by omega) rfl (by omega) R2.out.1 hN (by omega) (by omega) hb (HCt.out.right M2.out).1 (HCt.out.right M2.out).2).mono ?_
              rintro ee w4 ⟨rfl, f3, m3, t3, r3, g3⟩
              have Hfin : Hid (SrPost w g N a b f (.returned (.tuple #[])) w4) := Lib.hid ⟨rfl, f3, ((rot_mv f (a := i) (m := m) (b := e) q1 q2).wide c1 c4e).trans ((M2.out.wide (Nat.le_refl a) (by omega)).trans (m3.wide (by omega) (Nat.le_refl b))), HCt.out.whole M2.out m3 T2.out t3, r3, R2.out.2.trans g3⟩
              clear m3 t3 r3 g3
              go_wp2_with fail
              all_goals (go_end0; exact Hfin.out)
            · have T3 : Hid (Srt ltR mid b f2) := Lib.hid (by
                  have e7 : e = b := by omega
                  have := (HCt.out.right M2.out).1
                  rw [e7] at this
                  exact this)
              have Hfin : Hid (SrPost w g N a b f (.returned (.tuple #[])) wr) := Lib.hid ⟨rfl, f2, ((rot_mv f (a := i) (m := m) (b := e) q1 q2).wide c1 c4e).trans (M2.out.wide (Nat.le_refl a) (by omega)), HCt.out.whole M2.out (Mv.refl mid b f2) T2.out T3.out, R2.out.1, R2.out.2⟩
              go_wp2_with fail
              all_goals (go_end0; exact Hfin.out)
          · have T3 : Hid (Srt ltR mid b f2) := Lib.hid (by
                have e7 : e = mid := by omega
                have := (HCt.out.right M2.out).2
                rw [e7] at this
                exact this)
            have Hfin : Hid (SrPost w g N a b f (.returned (.tuple #[])) wr) := Lib.hid ⟨rfl, f2, ((rot_mv f (a := i) (m := m) (b := e) q1 q2).wide c1 c4e).trans (M2.out.wide (Nat.le_refl a) (by omega)), HCt.out.whole M2.out (Mv.refl mid b f2) T2.out T3.out, R2.out.1, R2.out.2⟩
            go_wp2_with fail
            all_goals (go_end0; exact Hfin.out)

set_option maxHeartbeats 8000000 in
set_option maxRecDepth 100000 in
theorem sym_gen2 (w : World) (g N a m b : Nat) (f : Nat → FlR) (IH : SymAt (b - a)) (hr : Rw w g N f) (hN : N ≤ 1048576) (hma : a + 1 < m) (hmb : m + 1 < b) (hb : b ≤ N) (sU : Srt ltR a m f) (sV : Srt ltR m b f) (hc : ¬ (a + b) / 2 < m) :
    Calls Tryd.prog 108 #[.slice (some ⟨g, 0, none⟩) N N, .int .i64 (a : Nat), .int .i64 (m : Nat), .int .i64 (b : Nat), CmpV] w (SrPost w g N a b f) := by
  obtain ⟨mid, hmid⟩ : ∃ mid, mid = (a + b) / 2 := ⟨_, rfl⟩
  rw [← hmid] at hc
  have m1 : 2 * mid ≤ a + b := by omega
  have m2 : a + b ≤ 2 * mid + 1 := by omega
  obtain ⟨lo, hlo0⟩ : ∃ lo, lo = a := ⟨_, rfl⟩
  obtain ⟨hi, hhi0⟩ : ∃ hi, hi = m := ⟨_, rfl⟩
  obtain ⟨p, hp⟩ : ∃ p, p = mid + m - 1 := ⟨_, rfl⟩
  have H0 : Hid (B5Rel w g N lo hi p f (.int .i64 ((a : Int))) (.int .i64 (m : Int)) w) := Lib.hid ⟨lo, hi, by omega, by omega, by omega, (by congr 1; omega), (by congr 1; omega), fun q h1 h2 => absurd h2 (by omega), fun q h1 h2 => absurd h2 (by omega), hr, Fr.refl _ _⟩
  have HC : Hid (∀ s, lo ≤ s → s ≤ hi → (∀ c, lo ≤ c → c < s → ltR (f (p - c)) (f c) = false) → (∀ c, s ≤ c → c < hi → ltR (f (p - c)) (f c) = true) → Cut ltR a mid b s (mid + m - s) (rot f s m (mid + m - s))) := Lib.hid fun s h1 h2 h3 h4 => by
    have := cut_of (s := s) ordR (by omega) (by omega) sU sV (by rw [← hmid, if_neg hc]; omega) (by rw [← hmid, if_neg hc]; omega) (by rw [← hmid, if_neg hc]; intro c x1 x2; have := h3 c (by omega) x2; rw [hp] at this; exact this) (by rw [← hmid, if_neg hc]; intro c x1 x2; have := h4 c x1 (by omega); rw [hp] at this; exact this)
    rw [← hmid] at this
    exact this
  have i1 : a ≤ lo := by omega
  have i2 : hi ≤ m := by omega
  have i3 : p < b + lo := by omega
  have i4 : m + hi ≤ p + 1 := by omega
  have i5 : hi ≤ mid := by omega
  have i6 : lo ≤ hi := by omega
  have ht : ((m : Int) - a == 1) = false := by rw [beq_eq_false_iff_ne]; omega
  have ht2 : ((b : Int) - m == 1) = false := by rw [beq_eq_false_iff_ne]; omega
  have k0 := IntWalk.i64_in ((m : Int) - a) (by omega)
  have k1 := IntWalk.i64_in ((b : Int) - m) (by omega)
  have k2 := IntWalk.i64_in ((a : Int) + b) (by omega)
  have k3 : ((a : Int) + b) / 2 = mid := by omega
  have k4 := IntWalk.i64_in ((mid : Int) + m) (by omega)
  have k5 := IntWalk.i64_in ((mid : Int) + m - b) (by omega)
  have k6 := IntWalk.i64_in ((mid : Int) + m - 1) (by omega)
  have hcI : ¬ (mid : Int) < m := by omega
  have HS := Lib.hid (And.intro sU sV)
  have Hp := Lib.hid hp
  clear hr sU sV hmid hlo0 hhi0 hp hc
  unfold CmpV
  go_enter Tryd.func108, Tryd.ntmps108
  go_wp2_with fail
  go_loopw [20, 21] (fun iv jv wr => B5Rel w g N lo hi p f iv jv wr) (fun iv jv _ => (intOf jv).toNat - (intOf iv).toNat)
  case atStart => exact H0.out
  case round =>
    clear H0 ht ht2 k0 k1 k2 k3 k4 k5 k6 hcI
    obtain ⟨i, j, h1, h2, h3, rfl, rfl, hlo, hhi, hr, hf⟩ := hrel
    by_cases hlt : i < j
    · have hlI : (i : Int) < j := by omega
      obtain ⟨h, hh⟩ : ∃ h, h = (i + j) / 2 := ⟨_, rfl⟩
      have g1 : i ≤ h := by omega
      have g2 : h < j := by omega
      have hp := Hp.out
      have k1 := IntWalk.i64_in ((i : Int) + j) (by omega)
      have hI2 : ((i : Int) + j) / 2 = h := by omega
      have b1 : (h : Int) < N := by omega
      have k2 := IntWalk.i64_in ((h : Int) + 1) (by omega)
      have k3 := IntWalk.i64_in ((mid : Int) + m - 1 - h) (by omega)
      have b2 : (mid : Int) + m - 1 - h < N := by omega
      have b3 : (0 : Int) ≤ (mid : Int) + m - 1 - h := by omega
      have b4 : (h : Int) ≤ (mid : Int) + m - 1 := by omega
      have t1 : ((mid : Int) + m - 1 - h).toNat = p - h := by omega
      have Hlo := Lib.hid hlo
      have Hhi := Lib.hid hhi
      obtain ⟨c1, c2⟩ := hr.at_ (i := p - h) (by omega)
      obtain ⟨d1, d2⟩ := hr.at_ (i := h) (by omega)
      obtain ⟨x, hx⟩ : ∃ x, x = f (p - h) := ⟨_, rfl⟩
      obtain ⟨y, hy⟩ : ∃ y, y = f (h) := ⟨_, rfl⟩
      rw [← hx] at c1 c2
      rw [← hy] at d1 d2
      have Hx := Lib.hid hx
      have Hy := Lib.hid hy
      have Hr := Lib.hid hr
      have Hf := Lib.hid hf
      unfold FlR.sl at c2 d2
      have C1 := Lib.hid c1
      have C2 := Lib.hid c2
      have D1 := Lib.hid d1
      have D2 := Lib.hid d2
      clear hx hy hr hf c1 c2 d1 d2
      clear hlo hhi hh hp
      go_wp2_with fail
      with_reducible refine g_mixx [(0, 0), (1, 0), (2, 0), (3, 0), (4, 0), (5, 0), (6, 0), (7, 0), (8, 0), (9, 0), (10, 0), (11, 2), (12, 0), (13, 0)] (fun w' => (w'.cell? ⟨g, (p - h) * 2, none⟩ = some (.string x.nm) ∧ w'.cell? ⟨g, (p - h) * 2 + 1, none⟩ = some (.slice x.ad x.n x.c)) ∧ w'.cell? ⟨g, (h) * 2, none⟩ = some (.string y.nm) ∧ w'.cell? ⟨g, (h) * 2 + 1, none⟩ = some (.slice y.ad y.n y.c)) 0 _ rfl (by kernel_rfl) (by kernel_rfl) ?_ ?_
      · exact ⟨⟨C1.out, C2.out⟩, D1.out, D2.out⟩
      intro OPS HD
      simp only [mixX, nthO, consX]
      iterate 11 ((with_reducible refine x_val (v := ?_) ?_ ?_ ?_); rotate_left; (rintro _ ⟨⟨c1, c2⟩, d1, d2⟩; (try simp only [k1, k3]); go_simp; first | done | rfl | (constructor <;> rfl)); exact ⟨⟨C1.out, C2.out⟩, D1.out, D2.out⟩)
      with_reducible refine x_one ?_
      refine l_call ?_ ((cmp_at _ x y).mono ?_)
      · go_simp
      rintro e w1 ⟨⟨kk, rfl, hk⟩, hb1⟩
      have hb1' : Below wr.heap.size wr w1 := ⟨hb1.os, hb1.tape, hb1.output, hb1.size, hb1.block⟩
      obtain ⟨hr1, hf1⟩ := Hf.out.rw_below Hr.out hb1'
      have hcell := Cells.of_below hb1'
      refine ⟨_, rfl, ?_⟩
      refine x_keep ⟨⟨hcell _ _ C1.out, hcell _ _ C2.out⟩, hcell _ _ D1.out, hcell _ _ D2.out⟩ ?_
      have HH := Lib.hid (And.intro hr1 hf1)
      have C3 := Lib.hid (hcell _ _ C1.out)
      have C4 := Lib.hid (hcell _ _ C2.out)
      have D3 := Lib.hid (hcell _ _ D1.out)
      have D4 := Lib.hid (hcell _ _ D2.out)
      clear hr1 hf1 hcell hb1 hb1' Hr Hf C1 C2 D1 D2
      cases hl : ltR x y with
      | true =>
        rw [hl] at hk
        have hkd := hk.symm
        have Hl := Lib.hid hl
        clear hk hl
        iterate 2 ((with_reducible refine x_val (v := ?_) ?_ ?_ ?_); rotate_left; (rintro _ _; (try simp only [hkd]); go_simp; first | done | rfl | (constructor <;> rfl)); exact ⟨⟨C3.out, C4.out⟩, D3.out, D4.out⟩)
        with_reducible refine x_end ?_
        simp only [Act.put, List.setIfInBounds_toArray, List.set_cons_zero, List.set_cons_succ]
        clear hkd C3 C4 D3 D4
        have hnew : ∀ q, h ≤ q → q < hi → ltR (f (p - q)) (f q) = true := fun q q1 q2 => by
          have h6 := Hl.out
          rw [Hx.out, Hy.out] at h6
          exact half_hi HS.out.1 HS.out.2 i1 i2 i3 i4 (by omega) q1 q2 h6
        have Hfin : Hid (B5Rel w g N lo hi p f (.int .i64 i) (.int .i64 h) w1) := Lib.hid ⟨i, h, h1, g1, by omega, rfl, rfl, Hlo.out, hnew, HH.out.1, HH.out.2⟩
        clear hnew
        go_wp2_with fail
        go_roundw
        case rel => exact Hfin.out
        case measure => simp [intOf]; omega
      | false =>
        rw [hl] at hk
        have hkd := hk.symm
        have Hl := Lib.hid hl
        clear hk hl
        iterate 2 ((with_reducible refine x_val (v := ?_) ?_ ?_ ?_); rotate_left; (rintro _ _; (try simp only [hkd]); go_simp; first | done | rfl | (constructor <;> rfl)); exact ⟨⟨C3.out, C4.out⟩, D3.out, D4.out⟩)
        with_reducible refine x_end ?_
        simp only [Act.put, List.setIfInBounds_toArray, List.set_cons_zero, List.set_cons_succ]
        clear hkd C3 C4 D3 D4
        have hnew : ∀ q, lo ≤ q → q < h + 1 → ltR (f (p - q)) (f q) = false := fun q q1 q2 => by
          have h6 := Hl.out
          rw [Hx.out, Hy.out] at h6
          exact half_lo HS.out.1 HS.out.2 i1 i2 i3 i4 q1 (show q ≤ h by omega) (by omega) h6
        have Hfin : Hid (B5Rel w g N lo hi p f (.int .i64 ((h : Int) + 1)) (.int .i64 j) w1) := Lib.hid ⟨h + 1, j, by omega, by omega, h3, by simp, rfl, hnew, Hhi.out, HH.out.1, HH.out.2⟩
        clear hnew
        go_wp2_with fail
        go_roundw
        case rel => exact Hfin.out
        case measure => simp [intOf]; omega
    · obtain rfl : i = j := by omega
      have hC := HC.out i h1 h3 hlo hhi
      have c1 := hC.h1
      have c2 := hC.h2
      have c3 := hC.h3
      have c4 := hC.h4
      have k1 := IntWalk.i64_in ((mid : Int) + m - i) (by omega)
      obtain ⟨e, he⟩ : ∃ e, e = mid + m - i := ⟨_, rfl⟩
      have k2 : (mid : Int) + m - i = e := by omega
      have e2 : e + i = mid + m := by omega
      have c4e : e ≤ b := by omega
      rw [← he] at hC
      have HCt := Lib.hid hC
      clear hlo hhi hC he HC
      have q1 : i ≤ m := by omega
      have q2 : m ≤ e := by omega
      have Hr := Lib.hid hr
      have Hf := Lib.hid hf
      clear hr hf
      by_cases h3 : (i : Int) < m
      · by_cases h4 : (m : Int) < e
        · go_wp2_with fail
          refine (rotate_at _ g N i m e f _ rfl rfl rfl Hr.out hN (by omega) (by omega) (by omega)).mono ?_
          rintro ee w2 ⟨rfl, r1, g1⟩
          have R1 := Lib.hid (And.intro r1 (Hf.out.trans g1))
          clear r1 g1 Hr Hf
          by_cases h5 : (a : Int) < i
          · by_cases h6 : (i : Int) < mid
            · go_wp2_with fail
              refine (sym_int IH _ g N a i mid (rot f i m e) rfl rfl rfl (by omega) R1.out.1 hN (by omega) (by omega) (by omega) HCt.out.s1 HCt.out.s2).mono ?_
              rintro ee w3 ⟨rfl, f2, m2, t2, r2, g2⟩
              have M2 := Lib.hid m2
              have T2 := Lib.hid t2
              have R2 := Lib.hid (And.intro r2 (R1.out.2.trans g2))
              clear m2 t2 r2 g2 R1
              by_cases h7 : (mid : Int) < e
              · by_cases h8 : (e : Int) < b
                · go_wp2_with fail
                  refine (sym_int IH _ g N mid e b f2 rfl (by omega) rfl (by omega) R2.out.1 hN (by omega) (by omega) hb (HCt.out.right M2.out).1 (HCt.out.right M2.out).2).mono ?_
                  rintro ee w4 ⟨rfl, f3, m3, t3, r3, g3⟩
                  have Hfin : Hid (SrPost w g N a b f (.returned (.tuple #[])) w4) := Lib.hid ⟨rfl, f3, ((rot_mv f (a := i) (m := m) (b := e) q1 q2).wide c1 c4e).trans ((M2.out.wide (Nat.le_refl a) (by omega)).trans (m3.wide (by omega) (Nat.le_refl b))), HCt.out.whole M2.out m3 T2.out t3, r3, R2.out.2.trans g3⟩
                  clear m3 t3 r3 g3
                  go_wp2_with fail
                  all_goals (go_end0; exact Hfin.out)
                · have T3 : Hid (Srt ltR mid b f2) := Lib.hid (by
                      have e7 : e = b := by omega
                      have := (HCt.out.right M2.out).1
                      rw [e7] at this
                      exact this)
                  have Hfin : Hid (SrPost w g N a b f (.returned (.tuple #[])) w3) := Lib.hid ⟨rfl, f2, ((rot_mv f (a := i) (m := m) (b := e) q1 q2).wide c1 c4e).trans (M2.out.wide (Nat.le_refl a) (by omega)), HCt.out.whole M2.out (Mv.refl mid b f2) T2.out T3.out, R2.out.1, R2.out.2⟩
                  go_wp2_with fail
                  all_goals (go_end0; exact Hfin.out)
              · have T3 : Hid (Srt ltR mid b f2) := Lib.hid (by
                    have e7 : e = mid := by omega
                    have := (HCt.out.right M2.out).2
                    rw [e7] at this
                    exact this)
                have Hfin : Hid (SrPost w g N a b f (.returned (.tuple #[])) w3) := Lib.hid ⟨rfl, f2, ((rot_mv f (a := i) (m := m) (b := e) q1 q2).wide c1 c4e).trans (M2.out.wide (Nat.le_refl a) (by omega)), HCt.out.whole M2.out (Mv.refl mid b f2) T2.out T3.out, R2.out.1, R2.out.2⟩
                go_wp2_with fail
                all_goals (go_end0; exact Hfin.out)
            · exfalso
              have e7 : i = mid := by omega
              omega
          · have T2 : Hid (Srt ltR a mid (rot f i m e)) := Lib.hid (by
                have e7 : i = a := by omega
                have := HCt.out.s2
                rw [show Srt ltR a mid (rot f i m e) = Srt ltR i mid (rot f i m e) by rw [e7]]
                exact this)
            have M2 := Lib.hid (Mv.refl a mid (rot f i m e))
            have R2 := R1
            clear R1
            generalize hf2 : rot f i m e = f2 at T2 R2 M2
            have M2 : Hid (Mv a mid (rot f i m e) f2) := Lib.hid (by rw [hf2]; exact Mv.refl _ _ _)
            clear hf2
            by_cases h7 : (mid : Int) < e
            · by_cases h8 : (e : Int) < b
              · go_wp2_with fail
                refine (sym_int IH _ g N mid e b f2 rfl (by omega) rfl (by omega) R2.out.1 hN (by omega) (by omega) hb (HCt.out.right M2.out).1 (HCt.out.right M2.out).2).mono ?_
                rintro ee w4 ⟨rfl, f3, m3, t3, r3, g3⟩
                have Hfin : Hid (SrPost w g N a b f (.returned (.tuple #[])) w4) := Lib.hid ⟨rfl, f3, ((rot_mv f (a := i) (m := m) (b := e) q1 q2).wide c1 c4e).trans ((M2.out.wide (Nat.le_refl a) (by omega)).trans (m3.wide (by omega) (Nat.le_refl b))), HCt.out.whole M2.out m3 T2.out t3, r3, R2.out.2.trans g3⟩
                clear m3 t3 r3 g3
                go_wp2_with fail
                all_goals (go_end0; exact Hfin.out)
              · have T3 : Hid (Srt ltR mid b f2) := Lib.hid (by
                    have e7 : e = b := by omega
                    have := (HCt.out.right M2.out).1
                    rw [e7] at this
                    exact this)
                have Hfin : Hid (SrPost w g N a b f (.returned (.tuple #[])) w2) := Lib.hid ⟨rfl, f2, ((rot_mv f (a := i) (m := m) (b := e) q1 q2).wide c1 c4e).trans (M2.out.wide (Nat.le_refl a) (by omega)), HCt.out.whole M2.out (Mv.refl mid b f2) T2.out T3.out, R2.out.1, R2.out.2⟩
                go_wp2_with fail
                all_goals (go_end0; exact Hfin.out)
            · have T3 : Hid (Srt ltR mid b f2) := Lib.hid (by
                  have e7 : e = mid := by omega
                  have := (HCt.out.right M2.out).2
                  rw [e7] at this
                  exact this)
              have Hfin : Hid (SrPost w g N a b f (.returned (.tuple #[])) w2) := Lib.hid ⟨rfl, f2, ((rot_mv f (a := i) (m := m) (b := e) q1 q2).wide c1 c4e).trans (M2.out.wide (Nat.le_refl a) (by omega)), HCt.out.whole M2.out (Mv.refl mid b f2) T2.out T3.out, R2.out.1, R2.out.2⟩
              go_wp2_with fail
              all_goals (go_end0; exact Hfin.out)
        · have R1 : Hid (Rw wr g N (rot f i m e) ∧ Fr [g] w wr) := Lib.hid ⟨by rw [rot_nil f q1 q2 (by omega)]; exact Hr.out, Hf.out⟩
          clear Hr Hf
          by_cases h5 : (a : Int) < i
          · by_cases h6 : (i : Int) < mid
            · go_wp2_with fail
              refine (sym_int IH _ g N a i mid (rot f i m e) rfl rfl rfl (by omega) R1.out.1 hN (by omega) (by omega) (by omega) HCt.out.s1 HCt.out.s2).mono ?_
              rintro ee w3 ⟨rfl, f2, m2, t2, r2, g2⟩
              have M2 := Lib.hid m2
              have T2 := Lib.hid t2
              have R2 := Lib.hid (And.intro r2 (R1.out.2.trans g2))
              clear m2 t2 r2 g2 R1
              by_cases h7 : (mid : Int) < e
              · by_cases h8 : (e : Int) < b
                · go_wp2_with fail
                  refine (sym_int IH _ g N mid e b f2 rfl (by omega) rfl (by omega) R2.out.1 hN (by omega) (by omega) hb (HCt.out.right M2.out).1 (HCt.out.right M2.out).2).mono ?_
                  rintro ee w4 ⟨rfl, f3, m3, t3, r3, g3⟩
                  have Hfin : Hid (SrPost w g N a b f (.returned (.tuple #[])) w4) := Lib.hid ⟨rfl, f3, ((rot_mv f (a := i) (m := m) (b := e) q1 q2).wide c1 c4e).trans ((M2.out.wide (Nat.le_refl a) (by omega)).trans (m3.wide (by omega) (Nat.le_refl b))), HCt.out.whole M2.out m3 T2.out t3, r3, R2.out.2.trans g3⟩
                  clear m3 t3 r3 g3
                  go_wp2_with fail
                  all_goals (go_end0; exact Hfin.out)
                · have T3 : Hid (Srt ltR mid b f2) := Lib.hid (by
                      have e7 : e = b := by omega
                      have := (HCt.out.right M2.out).1
                      rw [e7] at this
                      exact this)
                  have Hfin : Hid (SrPost w g N a b f (.returned (.tuple #[])) w3) := Lib.hid ⟨rfl, f2, ((rot_mv f (a := i) (m := m) (b := e) q1 q2).wide c1 c4e).trans (M2.out.wide (Nat.le_refl a) (by omega)), HCt.out.whole M2.out (Mv.refl mid b f2) T2.out T3.out, R2.out.1, R2.out.2⟩
                  go_wp2_with fail
                  all_goals (go_end0; exact Hfin.out)
              · have T3 : Hid (Srt ltR mid b f2) := Lib.hid (by
                    have e7 : e = mid := by omega
                    have := (HCt.out.right M2.out).2
                    rw [e7] at this
                    exact this)
                have Hfin : Hid (SrPost w g N a b f (.returned (.tuple #[])) w3) := Lib.hid ⟨rfl, f2, ((rot_mv f (a := i) (m := m) (b := e) q1 q2).wide c1 c4e).trans (M2.out.wide (Nat.le_refl a) (by omega)), HCt.out.whole M2.out (Mv.refl mid b f2) T2.out T3.out, R2.out.1, R2.out.2⟩
                go_wp2_with fail
                all_goals (go_end0; exact Hfin.out)
            · have T2 : Hid (Srt ltR a mid (rot f i m e)) := Lib.hid (by
                  have e7 : i = mid := by omega
                  have := HCt.out.s1
                  rw [show Srt ltR a mid (rot f i m e) = Srt ltR a i (rot f i m e) by rw [e7]]
                  exact this)
              have M2 := Lib.hid (Mv.refl a mid (rot f i m e))
              have R2 := R1
              clear R1
              generalize hf2 : rot f i m e = f2 at T2 R2 M2
              have M2 : Hid (Mv a mid (rot f i m e) f2) := Lib.hid (by rw [hf2]; exact Mv.refl _ _ _)
              clear hf2
              by_cases h7 : (mid : Int) < e
              · by_cases h8 : (e : Int) < b
                · go_wp2_with fail
                  refine (sym_int IH _ g N mid e b f2 rfl (by omega) rfl (by omega) R2.out.1 hN (by omega) (by omega) hb (HCt.out.right M2.out).1 (HCt.out.right M2.out).2).mono ?_
                  rintro ee w4 ⟨rfl, f3, m3, t3, r3, g3⟩
                  have Hfin : Hid (SrPost w g N a b f (.returned (.tuple #[])) w4) := Lib.hid ⟨rfl, f3, ((rot_mv f (a := i) (m := m) (b := e) q1 q2).wide c1 c4e).trans ((M2.out.wide (Nat.le_refl a) (by omega)).trans (m3.wide (by omega) (Nat.le_refl b))), HCt.out.whole M2.out m3 T2.out t3, r3, R2.out.2.trans g3⟩
                  clear m3 t3 r3 g3
                  go_wp2_with fail
                  all_goals (go_end0; exact Hfin.out)
                · have T3 : Hid (Srt ltR mid b f2) := Lib.hid (by
                      have e7 : e = b := by omega
                      have := (HCt.out.right M2.out).1
                      rw [e7] at this
                      exact this)
                  have Hfin : Hid (SrPost w g N a b f (.returned (.tuple #[])) wr) := Lib.hid ⟨rfl, f2, ((rot_mv f (a := i) (m := m) (b := e) q1 q2).wide c1 c4e).trans (M2.out.wide (Nat.le_refl a) (by omega)), HCt.out.whole M2.out (Mv.refl mid b f2) T2.out T3.out, R2.out.1, R2.out.2⟩
                  go_wp2_with fail
                  all_goals (go_end0; exact Hfin.out)
              · have T3 : Hid (Srt ltR mid b f2) := Lib.hid (by
                    have e7 : e = mid := by omega
                    have := (HCt.out.right M2.out).2
                    rw [e7] at this
                    exact this)
                have Hfin : Hid (SrPost w g N a b f (.returned (.tuple #[])) wr) := Lib.hid ⟨rfl, f2, ((rot_mv f (a := i) (m := m) (b := e) q1 q2).wide c1 c4e).trans (M2.out.wide (Nat.le_refl a) (by omega)), HCt.out.whole M2.out (Mv.refl mid b f2) T2.out T3.out, R2.out.1, R2.out.2⟩
                go_wp2_with fail
                all_goals (go_end0; exact Hfin.out)
          · have T2 : Hid (Srt ltR a mid (rot f i m e)) := Lib.hid (by
                have e7 : i = a := by omega
                have := HCt.out.s2
                rw [show Srt ltR a mid (rot f i m e) = Srt ltR i mid (rot f i m e) by rw [e7]]
                exact this)
            have M2 := Lib.hid (Mv.refl a mid (rot f i m e))
            have R2 := R1
            clear R1
            generalize hf2 : rot f i m e = f2 at T2 R2 M2
            have M2 : Hid (Mv a mid (rot f i m e) f2) := Lib.hid (by rw [hf2]; exact Mv.refl _ _ _)
            clear hf2
            by_cases h7 : (mid : Int) < e
            · by_cases h8 : (e : Int) < b
              · go_wp2_with fail
                refine (sym_int IH _ g N mid e b f2 rfl (by omega) rfl (by omega) R2.out.1 hN (by omega) (by omega) hb (HCt.out.right M2.out).1 (HCt.out.right M2.out).2).mono ?_
                rintro ee w4 ⟨rfl, f3, m3, t3, r3, g3⟩
                have Hfin : Hid (SrPost w g N a b f (.returned (.tuple #[])) w4) := Lib.hid ⟨rfl, f3, ((rot_mv f (a := i) (m := m) (b := e) q1 q2).wide c1 c4e).trans ((M2.out.wide (Nat.le_refl a) (by omega)).trans (m3.wide (by omega) (Nat.le_refl b))), HCt.out.whole M2.out m3 T2.out t3, r3, R2.out.2.trans g3⟩
                clear m3 t3 r3 g3
                go_wp2_with fail
                all_goals (go_end0; exact Hfin.out)
              · have T3 : Hid (Srt ltR mid b f2) := Lib.hid (by
                    have e7 : e = b := by omega
                    have := (HCt.out.right M2.out).1
                    rw [e7] at this
                    exact this)
                have Hfin : Hid (SrPost w g N a b f (.returned (.tuple #[])) wr) := Lib.hid ⟨rfl, f2, ((rot_mv f (a := i) (m := m) (b := e) q1 q2).wide c1 c4e).trans (M2.out.wide (Nat.le_refl a) (by omega)), HCt.out.whole M2.out (Mv.refl mid b f2) T2.out T3.out, R2.out.1, R2.out.2⟩
                go_wp2_with fail
                all_goals (go_end0; exact Hfin.out)
            · have T3 : Hid (Srt ltR mid b f2) := Lib.hid (by
                  have e7 : e = mid := by omega
                  have := (HCt.out.right M2.out).2
                  rw [e7] at this
                  exact this)
              have Hfin : Hid (SrPost w g N a b f (.returned (.tuple #[])) wr) := Lib.hid ⟨rfl, f2, ((rot_mv f (a := i) (m := m) (b := e) q1 q2).wide c1 c4e).trans (M2.out.wide (Nat.le_refl a) (by omega)), HCt.out.whole M2.out (Mv.refl mid b f2) T2.out T3.out, R2.out.1, R2.out.2⟩
              go_wp2_with fail
              all_goals (go_end0; exact Hfin.out)
      · have R1 : Hid (Rw wr g N (rot f i m e) ∧ Fr [g] w wr) := Lib.hid ⟨by rw [rot_nil f q1 q2 (by omega)]; exact Hr.out, Hf.out⟩
        clear Hr Hf
        by_cases h5 : (a : Int) < i
        · by_cases h6 : (i : Int) < mid
          · go_wp2_with fail
            refine (sym_int IH _ g N a i mid (rot f i m e) rfl rfl rfl (by omega) R1.out.1 hN (by omega) (by omega) (by omega) HCt.out.s1 HCt.out.s2).mono ?_
            rintro ee w3 ⟨rfl, f2, m2, t2, r2, g2⟩
            have M2 := Lib.hid m2
            have T2 := Lib.hid t2
            have R2 := Lib.hid (And.intro r2 (R1.out.2.trans g2))
            clear m2 t2 r2 g2 R1
            by_cases h7 : (mid : Int) < e
            · by_cases h8 : (e : Int) < b
              · go_wp2_with fail
                refine (sym_int IH _ g N mid e b f2 rfl (by omega) rfl (by omega) R2.out.1 hN (by omega) (by omega) hb (HCt.out.right M2.out).1 (HCt.out.right M2.out).2).mono ?_
                rintro ee w4 ⟨rfl, f3, m3, t3, r3, g3⟩
                have Hfin : Hid (SrPost w g N a b f (.returned (.tuple #[])) w4) := Lib.hid ⟨rfl, f3, ((rot_mv f (a := i) (m := m) (b := e) q1 q2).wide c1 c4e).trans ((M2.out.wide (Nat.le_refl a) (by omega)).trans (m3.wide (by omega) (Nat.le_refl b))), HCt.out.whole M2.out m3 T2.out t3, r3, R2.out.2.trans g3⟩
                clear m3 t3 r3 g3
                go_wp2_with fail
                all_goals (go_end0; exact Hfin.out)
              · have T3 : Hid (Srt ltR mid b f2) := Lib.hid (by
                    have e7 : e = b := by omega
                    have := (HCt.out.right M2.out).1
                    rw [e7] at this
                    exact this)
                have Hfin : Hid (SrPost w g N a b f (.returned (.tuple #[])) w3) := Lib.hid ⟨rfl, f2, ((rot_mv f (a := i) (m := m) (b := e) q1 q2).wide c1 c4e).trans (M2.out.wide (Nat.le_refl a) (by omega)), HCt.out.whole M2.out (Mv.refl mid b f2) T2.out T3.out, R2.out.1, R2.out.2⟩
                go_wp2_with fail
                all_goals (go_end0; exact Hfin.out)
            · have T3 : Hid (Srt ltR mid b f2) := Lib.hid (by
                  have e7 : e = mid := by omega
                  have := (HCt.out.right M2.out).2
                  rw [e7] at this
                  exact this)
              have Hfin : Hid (SrPost w g N a b f (.returned (.tuple #[])) w3) := Lib.hid ⟨rfl, f2, ((rot_mv f (a := i) (m := m) (b := e) q1 q2).wide c1 c4e).trans (M2.out.wide (Nat.le_refl a) (by omega)), HCt.out.whole M2.out (Mv.refl mid b f2) T2.out T3.out, R2.out.1, R2.out.2⟩
              go_wp2_with fail
              all_goals (go_end0; exact Hfin.out)
          · have T2 : Hid (Srt ltR a mid (rot f i m e)) := Lib.hid (by
                have e7 : i = mid := by omega
                have := HCt.out.s1
                rw [show Srt ltR a mid (rot f i m e) = Srt ltR a i (rot f i m e) by rw [e7]]
                exact this)
            have M2 := Lib.hid (Mv.refl a mid (rot f i m e))
            have R2 := R1
            clear R1
            generalize hf2 : rot f i m e = f2 at T2 R2 M2
            have M2 : Hid (Mv a mid (rot f i m e) f2) := Lib.hid (by rw [hf2]; exact Mv.refl _ _ _)
            clear hf2
            by_cases h7 : (mid : Int) < e
            · by_cases h8 : (e : Int) < b
              · go_wp2_with fail
                refine (sym_int IH _ g N mid e b f2 rfl (by omega) rfl (by omega) R2.out.1 hN (by omega) (by omega) hb (HCt.out.right M2.out).1 (HCt.out.right M2.out).2).mono ?_
                rintro ee w4 ⟨rfl, f3, m3, t3, r3, g3⟩
                have Hfin : Hid (SrPost w g N a b f (.returned (.tuple #[])) w4) := Lib.hid ⟨rfl, f3, ((rot_mv f (a := i) (m := m) (b := e) q1 q2).wide c1 c4e).trans ((M2.out.wide (Nat.le_refl a) (by omega)).trans (m3.wide (by omega) (Nat.le_refl b))), HCt.out.whole M2.out m3 T2.out t3, r3, R2.out.2.trans g3⟩
                clear m3 t3 r3 g3
                go_wp2_with fail
                all_goals (go_end0; exact Hfin.out)
              · have T3 : Hid (Srt ltR mid b f2) := Lib.hid (by
                    have e7 : e = b := by omega
                    have := (HCt.out.right M2.out).1
                    rw [e7] at this
                    exact this)
                have Hfin : Hid (SrPost w g N a b f (.returned (.tuple #[])) wr) := Lib.hid ⟨rfl, f2, ((rot_mv f (a := i) (m := m) (b := e) q1 q2).wide c1 c4e).trans (M2.out.wide (Nat.le_refl a) (by omega)), HCt.out.whole M2.out (Mv.refl mid b f2) T2.out T3.out, R2.out.1, R2.out.2⟩
                go_wp2_with fail
                all_goals (go_end0; exact Hfin.out)
            · have T3 : Hid (Srt ltR mid b f2) := Lib.hid (by
                  have e7 : e = mid := by omega
                  have := (HCt.out.right M2.out).2
                  rw [e7] at this
                  exact this)
              have Hfin : Hid (SrPost w g N a b f (.returned (.tuple #[])) wr) := Lib.hid ⟨rfl, f2, ((rot_mv f (a := i) (m := m) (b := e) q1 q2).wide c1 c4e).trans (M2.out.wide (Nat.le_refl a) (by omega)), HCt.out.whole M2.out (Mv.refl mid b f2) T2.out T3.out, R2.out.1, R2.out.2⟩
              go_wp2_with fail
              all_goals (go_end0; exact Hfin.out)
        · have T2 : Hid (Srt ltR a mid (rot f i m e)) := Lib.hid (by
              have e7 : i = a := by omega
              have := HCt.out.s2
              rw [show Srt ltR a mid (rot f i m e) = Srt ltR i mid (rot f i m e) by rw [e7]]
              exact this)
          have M2 := Lib.hid (Mv.refl a mid (rot f i m e))
          have R2 := R1
          clear R1
          generalize hf2 : rot f i m e = f2 at T2 R2 M2
          have M2 : Hid (Mv a mid (rot f i m e) f2) := Lib.hid (by rw [hf2]; exact Mv.refl _ _ _)
          clear hf2
          by_cases h7 : (mid : Int) < e
          · by_cases h8 : (e : Int) < b
            · go_wp2_with fail
              refine (sym_int IH _ g N mid e b f2 rfl (by omega) rfl (by omega) R2.out.1 hN (by omega) (by omega) hb (HCt.out.right M2.out).1 (HCt.out.right M2.out).2).mono ?_
              rintro ee w4 ⟨rfl, f3, m3, t3, r3, g3⟩
              have Hfin : Hid (SrPost w g N a b f (.returned (.tuple #[])) w4) := Lib.hid ⟨rfl, f3, ((rot_mv f (a := i) (m := m) (b := e) q1 q2).wide c1 c4e).trans ((M2.out.wide (Nat.le_refl a) (by omega)).trans (m3.wide (by omega) (Nat.le_refl b))), HCt.out.whole M2.out m3 T2.out t3, r3, R2.out.2.trans g3⟩
              clear m3 t3 r3 g3
              go_wp2_with fail
              all_goals (go_end0; exact Hfin.out)
            · have T3 : Hid (Srt ltR mid b f2) := Lib.hid (by
                  have e7 : e = b := by omega
                  have := (HCt.out.right M2.out).1
                  rw [e7] at this
                  exact this)
              have Hfin : Hid (SrPost w g N a b f (.returned (.tuple #[])) wr) := Lib.hid ⟨rfl, f2, ((rot_mv f (a := i) (m := m) (b := e) q1 q2).wide c1 c4e).trans (M2.out.wide (Nat.le_refl a) (by omega)), HCt.out.whole M2.out (Mv.refl mid b f2) T2.out T3.out, R2.out.1, R2.out.2⟩
              go_wp2_with fail
              all_goals (go_end0; exact Hfin.out)
          · have T3 : Hid (Srt ltR mid b f2) := Lib.hid (by
                have e7 : e = mid := by omega
                have := (HCt.out.right M2.out).2
                rw [e7] at this
                exact this)
            have Hfin : Hid (SrPost w g N a b f (.returned (.tuple #[])) wr) := Lib.hid ⟨rfl, f2, ((rot_mv f (a := i) (m := m) (b := e) q1 q2).wide c1 c4e).trans (M2.out.wide (Nat.le_refl a) (by omega)), HCt.out.whole M2.out (Mv.refl mid b f2) T2.out T3.out, R2.out.1, R2.out.2⟩
            go_wp2_with fail
            all_goals (go_end0; exact Hfin.out)
theorem sym_all (n : Nat) : SymAt n := by
  induction n with
  | zero => intro w g N a m b f h; omega
  | succ n ih =>
    intro w g N a m b f hn hr hN h1 h2 h3 sU sV
    by_cases e1 : m = a + 1
    · exact sym_up w g N a m b f hr hN e1 h2 h3 sV
    · by_cases e2 : b = m + 1
      · exact sym_down w g N a m b f hr hN e2 (by omega) h3 sU
      · have IH : SymAt (b - a) := fun w g N a' m' b' f' hn' => ih w g N a' m' b' f' (by omega)
        by_cases hc : (a + b) / 2 < m
        · exact sym_gen1 w g N a m b f IH hr hN (by omega) (by omega) h3 sU sV hc
        · exact sym_gen2 w g N a m b f IH hr hN (by omega) (by omega) h3 sU sV hc
theorem sym_any (w : World) (g N a m b : Nat) (f : Nat → FlR) (hr : Rw w g N f) (hN : N ≤ 1048576) (h1 : a < m) (h2 : m < b) (h3 : b ≤ N) (s1 : Srt ltR a m f) (s2 : Srt ltR m b f) :
  Calls Tryd.prog 108 #[.slice (some ⟨g, 0, none⟩) N N, .int .i64 (a : Nat), .int .i64 (m : Nat), .int .i64 (b : Nat), CmpV] w (SrPost w g N a b f) :=
  sym_all (b - a + 1) w g N a m b f (by omega) hr hN h1 h2 h3 s1 s2
end Go.Proofs.YtdmladdpbdcpjaaDoor

