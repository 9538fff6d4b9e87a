/-
  Base64 read: the reference's.
-/
import Derived.Test.YtfbdjfljgcfikaaDoorArkFrom
import Derived.Test.YtfbdjfljgcfikaaDoorArkB64R
namespace Go.Proofs.YtfbdjfljgcfikaaDoor
open Go.RowKit

attribute [local go_sem] lt1 lt2 lt3 lt4 lt5 lt6

theorem place_some {c : UInt8} {i : Nat} (h : i < 64) (he : letter i = c) : place64 c = some i := by rw [← he]; exact place_letter i h
theorem letter_getD : ∀ i, i < 64 → letters64.getD i 0 = letter i := fun _ _ => rfl
theorem place_none0 : ∀ n, n < 256 → (∀ i, i < 64 → letter i ≠ UInt8.ofNat n) → place64 (UInt8.ofNat n) = none := by decide +kernel
theorem place_none {c : UInt8} (h : ∀ i, i < 64 → letter i ≠ c) : place64 c = none := by
  have := place_none0 c.toNat c.toNat_lt
  rw [UInt8.ofNat_toNat] at this
  exact this h
set_option maxHeartbeats 2000000 in
set_option maxRecDepth 100000 in
theorem place_any (c : UInt8) (w : World) : Calls Tryd.prog 69 #[.int .u8 (c.toNat : Nat)] w fun e w' => e = .returned (.int .i64 (placeI c)) ∧ w = w' := by
  have hc := c.toNat_lt
  go_enter Tryd.func69, Tryd.ntmps69
  go_wp2_with fail
  go_loop [3] (fun iv => ∃ i, i ≤ 64 ∧ iv = .int .i64 (i : Nat) ∧ Hid (∀ j, j < i → letter j ≠ c)) (fun iv => 64 - (intOf iv).toNat)
  case atStart => exact ⟨0, by omega, rfl, Lib.hid (by omega)⟩
  case round =>
    obtain ⟨i, hi, rfl, H⟩ := hrel
    by_cases hlt : i < 64
    · have hi1 : (0 : Int) ≤ i := by omega
      have hi2 : (i : Int) < 64 := by omega
      have hat := fun hb => letterAt hlt hb
      by_cases he : letter i = c
      · have hq : (((letter i).toNat : Int) == (c.toNat : Int)) = true := by rw [he]; exact BEq.rfl
        have hpl : placeI c = i := by unfold placeI; rw [place_some hlt he]
        have Hpl := Lib.hid hpl
        clear hpl he
        generalize letter i = l at *
        go_wp2_with fail
        go_ret
        exact ⟨by rw [Hpl.out]; rfl, rfl⟩
      · have hq : (((letter i).toNat : Int) == (c.toNat : Int)) = false := by
          rw [beq_eq_false_iff_ne]
          intro h
          exact he (UInt8.toNat_inj.1 (by omega))
        have H2 : Hid (∀ j, j < i + 1 → letter j ≠ c) := Lib.hid (fun j hj => by
          by_cases e : j = i
          · subst e; exact he
          · exact H.out j (by omega))
        clear he
        generalize letter i = l at *
        go_wp2_with fail
        go_round
        case rel => exact ⟨i + 1, by omega, rfl, H2⟩
        case measure => simp [intOf]; omega
    · obtain rfl : i = 64 := by omega
      have hpl : placeI c = -1 := by unfold placeI; rw [place_none H.out]
      have Hpl := Lib.hid hpl
      clear hpl
      go_wp2_with fail
      go_ret
      exact ⟨by rw [Hpl.out]; rfl, rfl⟩
def numP (l : List UInt8) : Nat := l.foldl (fun n c => n * 64 + placeN c) 0
theorem placeN_lt (c : UInt8) : placeN c < 64 := by
  unfold placeN
  cases h : place64 c with
  | none => simp
  | some v => exact place_lt c v h
theorem numP_snoc (l : List UInt8) (c : UInt8) : numP (l ++ [c]) = numP l * 64 + placeN c := by unfold numP; rw [List.foldl_append]; rfl
theorem placeI_max (c : UInt8) : max (placeI c) 0 = (placeN c : Int) := by
  unfold placeI placeN
  cases h : place64 c with
  | none => rfl
  | some v => simp
theorem own_take {w : World} {base n cap m : Nat} {A : Option Addr} {O : List UInt8} (h : w.ownsRow base 5 1 (.slice A n cap) n (u8s O)) (hn : O.length = n) (hA : A ≠ none) (hm : m ≤ n) : w.ownsRow base 5 1 (.slice A m cap) m (u8s (O.take m)) := by
  obtain ⟨h1, ⟨he, _⟩ | ⟨g, cap', cur, he, hb, hg, hnc, hc, hs, hx⟩⟩ := h
  · cases he; exact absurd rfl hA
  · cases he
    refine ⟨by simp [u8s]; omega, .inr ⟨g, cap, cur, rfl, hb, hg, by omega, hc, hs, ?_⟩⟩
    rw [show u8s (O.take m) = (u8s O).take m by simp [u8s, List.map_take], ← hx, List.take_take, Nat.mul_one, Nat.mul_one, Nat.min_eq_left hm]
theorem ends2_at {S : List UInt8} (h : 2 ≤ S.length) : ends2 S = if S.getD (S.length - 1) 0 = 61 then (if S.getD (S.length - 1 - 1) 0 = 61 then 2 else 1) else 0 := by
  have h1 : S.getLast? = some (S.getD (S.length - 1) 0) := by
    rw [List.getLast?_eq_getElem?, List.getD_eq_getElem?_getD, List.getElem?_eq_getElem (by omega)]; rfl
  have h2 : S.dropLast.getLast? = some (S.getD (S.length - 1 - 1) 0) := by
    rw [List.getLast?_eq_getElem?, List.length_dropLast, List.getElem?_dropLast, if_pos (by omega), List.getD_eq_getElem?_getD, List.getElem?_eq_getElem (by omega)]; rfl
  unfold ends2
  rw [h1, h2]
  simp
def Fr1 (w : World) (S : List UInt8) (ov iv : Value) (wr : World) : Prop :=
  ∃ i O, i ≤ S.length ∧ i % 4 = 0 ∧ iv = .int .i64 (i : Nat) ∧ O.length ≤ i ∧ O ++ unfour (S.drop i) = unfour S ∧ wr.ownsRow w.heap.size 5 1 ov O.length (u8s O) ∧ Below w.heap.size w wr
def Fr2 (R : List UInt8) (nv kv : Value) : Prop := ∃ k n : Nat, k ≤ 4 ∧ kv = .int .i64 (k : Nat) ∧ nv = .int .i64 (n : Nat) ∧ n < 64 ^ k ∧ n = numP (R.take k)
theorem unfour_step {R : List UInt8} (h : 4 ≤ R.length) : unfour R = three (numP (R.take 4)) ++ unfour (R.drop 4) := by
  match R, h with
  | a :: b :: c :: d :: r, _ =>
    simp only [unfour, List.take_succ_cons, List.take_zero, List.drop_succ_cons, List.drop_zero]
    congr 2
    simp [numP, num4]
theorem three_u8s (n : Nat) (h : n < 16777216) : u8s (three n) = [.int .u8 ((n : Int) / 65536), .int .u8 ((n : Int) / 256 % 256), .int .u8 ((n : Int) % 256)] := by
  simp [u8s, three]
  omega
theorem fr1_step {w wr wx : World} {S O : List UInt8} {i n : Nat} {v v' : Value} {o : Obj} (hi : i + 4 ≤ S.length) (hi4 : i % 4 = 0) (hO : O.length ≤ i) (hun : O ++ unfour (S.drop i) = unfour S) (hn : n = numP ((S.drop i).take 4)) (hown : wr.ownsRow w.heap.size 5 1 v O.length (u8s O)) (hB : Below w.heap.size w wr)
    (hown' : wx.ownsRow w.heap.size 5 1 v' (O.length + 3) (u8s O ++ u8s (three n))) (hg : (wr.alloc o).grownBy wx v.ownBlock) : Fr1 w S v' (.int .i64 ((i : Int) + 4)) wx := by
  refine ⟨i + 4, O ++ three n, hi, by omega, rfl, by simp [three]; omega, ?_, ?_, (hB.alloc hB.size o).grown hg (by have := hB.size; simp; omega) (fun k hk => (own_blk hown k hk).1)⟩
  · rw [← hun, unfour_step (R := S.drop i) (by simp; omega), hn, List.drop_drop, List.append_assoc]
  · rw [show (O ++ three n).length = O.length + 3 by simp [three], show u8s (O ++ three n) = u8s O ++ u8s (three n) by simp [u8s]]
    exact hown'
theorem base64_ref_at (w : World) (b : List UInt8) (A : Option Addr) (n c : Nat) (hn : n = b.length) (hb : Bs w A c b) (hl : n ≤ 1048576) :
    Calls Tryd.prog 39 #[.slice A n c] w fun e w' => e = .returned (.string ⟨(b64 b).toArray⟩) ∧ Below w.heap.size w w' := by
  subst hn
  exact base64_ref w b A c hb hl
def Fr3 (w : World) (S : List UInt8) (ov kv : Value) (wr : World) : Prop :=
  ∃ (k : Nat) (A : Option Addr) (c : Nat), k ≤ ends2 S ∧ kv = .int .i64 (k : Nat) ∧ ov = .slice A ((unfour S).length - k) c ∧ wr.ownsRow w.heap.size 5 1 (.slice A ((unfour S).length - k) c) ((unfour S).length - k) (u8s ((unfour S).take ((unfour S).length - k))) ∧ Below w.heap.size w wr
theorem ends2_le (S : List UInt8) : ends2 S ≤ 2 := by unfold ends2; split <;> (try split) <;> omega

set_option maxHeartbeats 4000000 in
set_option maxRecDepth 100000 in
theorem from_ref (w : World) (s : ByteArray) (hl : s.size ≤ 1048576) :
    Calls Tryd.prog 43 #[.string s] w (FromPost s.data.toList w) := by
  obtain ⟨i0, hi0, hz0, hz1, hz2⟩ := info_parts infoU8
  have hS := size_list s
  obtain ⟨S, hSS⟩ : ∃ S, S = s.data.toList := ⟨_, rfl⟩
  have hidx : ∀ i, i < S.length → ∀ hb, s[i]'hb = S.getD i 0 := fun i hi hb => by rw [hSS] at hi ⊢; exact str_at hi hb
  have htm : (s.size : Int).tmod 4 = (s.size : Int) % 4 := Int.tmod_eq_emod_of_nonneg (by omega)
  rw [← hSS] at hS ⊢
  have HS := Lib.hid hS
  have Hidx := Lib.hid hidx
  have HSS := Lib.hid hSS
  clear hS hidx hSS
  by_cases h4 : S.length % 4 = 0
  · have hne : ((s.size : Int) % 4 != 0) = false := by rw [bne_eq_false_iff_eq]; have := HS.out; omega
    have H4 := Lib.hid h4
    clear h4
    go_enter Tryd.func43, Tryd.ntmps43
    go_wp2_with fail
    go_loopw [4, 5] (fun ov iv wr => Fr1 w S ov iv wr) (fun _ iv _ => s.size - (intOf iv).toNat)
    case atStart => exact ⟨0, [], by omega, rfl, rfl, by simp, by simp, World.ownsRow_nil _ _ _ _, Below.refl _ _⟩
    case round =>
      obtain ⟨i, O, hi, hi4, rfl, hO, hun, hown, hB⟩ := hrel
      obtain ⟨Av, cv, rfl, _, _, _, _⟩ := own_form hown
      have Hown := Lib.hid hown
      have HB := Lib.hid hB
      have Hun := Lib.hid hun
      have Hi4 := Lib.hid hi4
      have hwr := hB.size
      rw [HS.out] at hi
      clear hown hB hun hi4
      by_cases hlt : i < s.size
      · have hi44 : i + 4 ≤ s.size := by have := Hi4.out; have := H4.out; have := HS.out; omega
        have hi1 : (0 : Int) ≤ i := by omega
        have hi2 : (i : Int) < s.size := by omega
        go_wp2_with fail
        generalize wr = wo at *
        go_loopw [6, 7] (fun nv kv wr => Fr2 (S.drop i) nv kv ∧ wr = wo) (fun _ kv _ => 4 - (intOf kv).toNat)
        case atStart => exact ⟨⟨0, 0, by omega, rfl, rfl, by omega, rfl⟩, rfl⟩
        case round =>
          obtain ⟨⟨k, n, hk, rfl, rfl, hn, hnp⟩, rfl⟩ := hrel
          have Hnp := Lib.hid hnp
          have h64 : (64 : Nat) ^ k ≤ 16777216 := by
            have := Nat.pow_le_pow_right (n := 64) (by omega) hk
            simpa using this
          have Hn := Lib.hid hn
          have hnl : n < 16777216 := by omega
          clear hnp hn h64
          by_cases hk4 : k < 4
          · have hk1 : (0 : Int) ≤ k := by omega
            have hk2 : (k : Int) < 4 := by omega
            have hj1 : (i : Int) + k < s.size := by omega
            have hj2 : i + k < s.size := by omega
            have hj3 : ((i : Int) + k).toNat = i + k := by omega
            have hat := Hidx.out (i + k) (by rw [HS.out]; omega)
            obtain ⟨c, hc⟩ : ∃ c, c = S.getD (i + k) 0 := ⟨_, rfl⟩
            simp only [← hc] at hat
            have Hstep : Hid (numP ((S.drop i).take (k + 1)) = n * 64 + placeN c) := Lib.hid (by
              rw [List.take_succ_eq_append_getElem (by rw [List.length_drop, HS.out]; omega), numP_snoc, ← Hnp.out, hc]
              congr 1
              rw [List.getElem_drop, List.getD_eq_getElem?_getD, List.getElem?_eq_getElem (by rw [HS.out]; omega)]
              rfl)
            have hmx := placeI_max c
            have hpl := placeN_lt c
            clear hc
            go_wp2_with fail
            refine (place_any c _).mono ?_
            rintro e w' ⟨rfl, rfl⟩
            have Hfin : Hid (Fr2 (S.drop i) (.int .i64 ((n : Int) * 64 + (placeN c : Nat))) (.int .i64 ((k : Int) + 1))) := Lib.hid ⟨k + 1, n * 64 + placeN c, by omega, rfl, by congr 1, by have := Hn.out; rw [Nat.pow_succ]; omega, Hstep.out.symm⟩
            go_wp2_with fail
            exact ⟨⟨Hfin.out, trivial⟩, by simp [intOf]; omega⟩
          · obtain rfl : k = 4 := by omega
            have H3 := Lib.hid (three_u8s n hnl)
            go_wp2_with (first | (at_builtin; refine wpList_append_own _ rfl _ _ 28 rfl w.heap.size 5 i0 (.int .u8 0) 1 1 Tryd.underlying28 hi0 hz0 hz1 hz2 rfl (by omega) (.slice Av O.length cv) O.length (u8s O) rfl (Hown.out.alloc _) ⟨wr.heap.size, 0, none⟩ 3 3 [.int .u8 ((n : Int) / 65536), .int .u8 ((n : Int) / 256 % 256), .int .u8 ((n : Int) % 256)] rfl rfl (fun j v hv => World.news_of_block (w := wr.alloc _) (heap_alloc_new wr _) j v hv) (by rw [← H3.out]; exact u8s_one _) (by unfold maxLen; omega) (by omega) (by simp; omega) ?_))
            intro v1 wp hown1 hgrow1 _
            rw [← H3.out] at hown1
            have Hfin := Lib.hid (fr1_step (by rw [HS.out]; exact hi44) Hi4.out hO Hun.out Hnp.out Hown.out HB.out hown1 hgrow1)
            obtain ⟨Av1, cv1, rfl, _, _, _, _⟩ := own_form hown1
            clear hown1 hgrow1
            go_wp2_with fail
            exact ⟨Hfin.out, by simp [intOf]; omega⟩
      · have hiS : i = S.length := by rw [HS.out]; omega
        have hOU : O = unfour S := by
          have := Hun.out
          rw [hiS, List.drop_length, show unfour [] = [] from rfl, List.append_nil] at this
          exact this
        have hUl := unfour_length S H4.out
        rw [← hOU] at hUl
        have hsl : O.length = s.size / 4 * 3 := by rw [hUl, HS.out]
        have HOU := Lib.hid hOU
        clear hiS hOU hUl
        have Hst : Hid (Fr3 w S (.slice Av O.length cv) (.int .i64 0) wr) := Lib.hid ⟨0, Av, cv, by omega, rfl, by rw [Nat.sub_zero, ← HOU.out], by rw [Nat.sub_zero, ← HOU.out, List.take_length]; exact Hown.out, HB.out⟩
        clear Hown HB Hun hwr
        go_wp2_with fail
        go_loopw [4, 8] (fun ov kv wr => Fr3 w S ov kv wr) (fun _ kv _ => 2 - (intOf kv).toNat)
        case atStart => exact Hst.out
        case round =>
          obtain ⟨k, Ak, ck, hk, rfl, rfl, hown, hB⟩ := hrel
          have he2 := ends2_le S
          rw [← HOU.out] at hown ⊢
          have hOs := hsl
          have Hown := Lib.hid hown
          have HB := Lib.hid hB
          have hwr := hB.size
          obtain ⟨_, _, hev, hnil, _, hcle, hcm⟩ := own_form hown
          simp only [Value.slice.injEq] at hev
          obtain ⟨rfl, _, rfl⟩ := hev
          have Hexit : Hid (k = ends2 S → k ≤ O.length ∧ (u8s (O.take (O.length - k)) = u8s (decRef S)) ∧ (decRef S).length = O.length - k) := Lib.hid (fun h => by
            have e : decRef S = O.take (O.length - k) := by unfold decRef; rw [← HOU.out, h]
            refine ⟨?_, by rw [e], by rw [e]; simp⟩
            by_cases h0 : S = []
            · subst h0; simp [ends2] at h; omega
            · have h1 : 4 ≤ S.length := by
                have := H4.out
                have : S.length ≠ 0 := fun e => h0 (List.eq_nil_of_length_eq_zero e)
                omega
              have := HS.out
              omega)
          have Hnil := Lib.hid hnil
          clear hown hB hnil hsl
          have hkO2 : 0 < s.size → k + 1 ≤ O.length := fun h => by have := H4.out; have := HS.out; omega
          have hO32 : O.length ≤ 1048576 := by omega
          have Hs2 := Lib.hid hOs
          clear hOs
          have hk22 : k ≤ 2 := by omega
          by_cases hk2 : k < 2
          · by_cases hs0 : 0 < s.size
            · have hs4 : 4 ≤ s.size := by have := H4.out; have := HS.out; omega
              have hkO := hkO2 hs0
              obtain ⟨m, hm⟩ : ∃ m, m = O.length - k := ⟨_, rfl⟩
              have hm1 : 1 ≤ m := by omega
              have hm2 : m ≤ 1048576 := by omega
              have Hmk : Hid (m - 1 = O.length - (k + 1)) := Lib.hid (by omega)
              rw [← hm] at Hown hcle Hexit ⊢
              have Hm := Lib.hid hm
              clear hm hkO2
              have hj0 : (0 : Int) ≤ (s.size : Int) - 1 - k := by omega
              have hj1 : (s.size : Int) - 1 - k < s.size := by omega
              have hj2 : ((s.size : Int) - 1 - k).toNat = s.size - 1 - k := by omega
              have hj3 : s.size - 1 - k < s.size := by omega
              have hat := Hidx.out (s.size - 1 - k) (by rw [HS.out]; omega)
              obtain ⟨c, hc⟩ : ∃ c, c = S.getD (s.size - 1 - k) 0 := ⟨_, rfl⟩
              simp only [← hc] at hat
              have hend := ends2_at (S := S) (by rw [HS.out]; omega)
              rw [HS.out] at hend
              by_cases h61 : c = 61
              · have hq : ((c.toNat : Int) == 61) = true := by rw [h61]; rfl
                have Hk1 : Hid (k + 1 ≤ ends2 S) := Lib.hid (by
                  rcases (by omega : k = 0 ∨ k = 1) with rfl | rfl
                  · rw [hend, if_pos (by rw [← h61, hc]; rfl)]; split <;> omega
                  · have h0 : S.getD (s.size - 1) 0 = 61 := by
                      refine Decidable.byContradiction fun hn => ?_
                      rw [hend, if_neg hn] at hk
                      omega
                    rw [hend, if_pos h0, if_pos (by rw [← h61, hc])]
                    exact Nat.le_refl _)
                have Hown2 : Hid (wr.ownsRow w.heap.size 5 1 (.slice Ak (m - 1) ck) (m - 1) (u8s (O.take (m - 1)))) := Lib.hid (by
                  have h1 := own_take (O := O.take m) (by rw [Hm.out]; rw [← Hm.out]; exact Hown.out) (by rw [List.length_take]; have := Hm.out; omega) (fun h => by have := (Hnil.out h).1; omega) (show m - 1 ≤ m by omega)
                  rw [List.take_take, Nat.min_eq_left (by omega)] at h1
                  exact h1)
                have Hfin : Hid (Fr3 w S (.slice Ak (m - 1) ck) (.int .i64 ((k : Int) + 1)) wr) := Lib.hid ⟨k + 1, Ak, ck, Hk1.out, rfl, by rw [← HOU.out, ← Hmk.out], by rw [← HOU.out, ← Hmk.out]; exact Hown2.out, HB.out⟩
                clear hend hc h61
                go_wp2_with fail
                exact ⟨Hfin.out, by simp [intOf]; omega⟩
              · have hq : ((c.toNat : Int) == 61) = false := by
                  rw [beq_eq_false_iff_ne]
                  intro h
                  exact h61 (UInt8.toNat_inj.1 (by have : (61 : UInt8).toNat = 61 := rfl; omega))
                have Hk1 : Hid (k = ends2 S) := Lib.hid (by
                  rcases (by omega : k = 0 ∨ k = 1) with rfl | rfl
                  · rw [hend, if_neg (by rw [hc] at h61; exact h61)]
                  · have h0 : S.getD (s.size - 1) 0 = 61 := by
                      refine Decidable.byContradiction fun hn => ?_
                      rw [hend, if_neg hn] at hk
                      omega
                    rw [hend, if_pos h0, if_neg (by rw [hc] at h61; exact h61)])
                clear hend hc h61
                obtain ⟨D, hD⟩ : ∃ D, D = decRef S := ⟨_, rfl⟩
                obtain ⟨hx1, hx2, hx3⟩ := Hexit.out Hk1.out
                rw [← hD] at hx2 hx3
                have hown2 := Hown.out
                rw [hx2, ← hx3] at hown2
                have hbs := row_sl' hown2
                have Hown2 := Lib.hid hown2
                have HD := Lib.hid hD
                have Hm2 := Lib.hid hx3
                clear hown2 hD hx1 hx2 hx3 hwr
                go_wp2_with fail
                refine (base64_ref_at wr D Ak m ck Hm2.out.symm hbs (by omega)).mono ?_
                rintro e w1 ⟨rfl, hB1⟩
                have HB1 : Hid (Below w.heap.size w w1) := Lib.hid (HB.out.trans (hB1.mono HB.out.size))
                have Hown1 : Hid (w1.ownsRow w.heap.size 5 1 (.slice Ak D.length ck) D.length (u8s D)) := Lib.hid (own_keep Hown2.out fun g cs hg => (hB1.block g (lt_of_heap hg)).trans hg)
                clear hB1 hbs
                obtain ⟨Z, hZ⟩ : ∃ Z : ByteArray, Z = ⟨(b64 D).toArray⟩ := ⟨_, rfl⟩
                rw [← hZ]
                have HZ := Lib.hid hZ
                clear hZ
                by_cases he : Z = s
                · have hq : (Z.toList == s.toList) = true := by rw [he]; exact BEq.rfl
                  have He := Lib.hid he
                  clear he
                  go_wp2_with fail
                  go_ret2
                  rw [← Hm2.out]
                  refine ⟨HB1.out, .inl ⟨D, _, ?_, rfl, Hown1.out⟩⟩
                  rw [HSS.out, ← He.out, HZ.out]
                · have hq : (Z.toList == s.toList) = false := by rw [str_eq]; simp [he]
                  have He := Lib.hid he
                  clear he
                  go_wp2_with fail
                  go_ret2
                  refine ⟨HB1.out, .inr ⟨fun b hb => He.out ?_, rfl⟩⟩
                  rw [HZ.out, HD.out, ← hb, dec_ref, hb, HSS.out]
            · have Hk1 : Hid (k = ends2 S) := Lib.hid (by
                have h0 : S = [] := List.eq_nil_of_length_eq_zero (by rw [HS.out]; omega)
                rw [h0] at hk ⊢
                simp [ends2] at hk ⊢
                omega)
              have hs00 : ¬ (0 : Int) < s.size := by omega
              obtain ⟨m, hm⟩ : ∃ m, m = O.length - k := ⟨_, rfl⟩
              have hm2 : m ≤ 1048576 := by omega
              rw [← hm] at Hown hcle Hexit ⊢
              clear hm hkO2
              obtain ⟨D, hD⟩ : ∃ D, D = decRef S := ⟨_, rfl⟩
              obtain ⟨hx1, hx2, hx3⟩ := Hexit.out Hk1.out
              rw [← hD] at hx2 hx3
              have hown2 := Hown.out
              rw [hx2, ← hx3] at hown2
              have hbs := row_sl' hown2
              have Hown2 := Lib.hid hown2
              have HD := Lib.hid hD
              have Hm2 := Lib.hid hx3
              clear hown2 hD hx1 hx2 hx3 hwr
              go_wp2_with fail
              refine (base64_ref_at wr D Ak m ck Hm2.out.symm hbs (by omega)).mono ?_
              rintro e w1 ⟨rfl, hB1⟩
              have HB1 : Hid (Below w.heap.size w w1) := Lib.hid (HB.out.trans (hB1.mono HB.out.size))
              have Hown1 : Hid (w1.ownsRow w.heap.size 5 1 (.slice Ak D.length ck) D.length (u8s D)) := Lib.hid (own_keep Hown2.out fun g cs hg => (hB1.block g (lt_of_heap hg)).trans hg)
              clear hB1 hbs
              obtain ⟨Z, hZ⟩ : ∃ Z : ByteArray, Z = ⟨(b64 D).toArray⟩ := ⟨_, rfl⟩
              rw [← hZ]
              have HZ := Lib.hid hZ
              clear hZ
              by_cases he : Z = s
              · have hq : (Z.toList == s.toList) = true := by rw [he]; exact BEq.rfl
                have He := Lib.hid he
                clear he
                go_wp2_with fail
                go_ret2
                rw [← Hm2.out]
                refine ⟨HB1.out, .inl ⟨D, _, ?_, rfl, Hown1.out⟩⟩
                rw [HSS.out, ← He.out, HZ.out]
              · have hq : (Z.toList == s.toList) = false := by rw [str_eq]; simp [he]
                have He := Lib.hid he
                clear he
                go_wp2_with fail
                go_ret2
                refine ⟨HB1.out, .inr ⟨fun b hb => He.out ?_, rfl⟩⟩
                rw [HZ.out, HD.out, ← hb, dec_ref, hb, HSS.out]
          · have Hk1 : Hid (k = ends2 S) := Lib.hid (by omega)
            have hkk : ¬ (k : Int) < 2 := by omega
            obtain ⟨m, hm⟩ : ∃ m, m = O.length - k := ⟨_, rfl⟩
            have hm2 : m ≤ 1048576 := by omega
            rw [← hm] at Hown hcle Hexit ⊢
            clear hm hkO2
            obtain ⟨D, hD⟩ : ∃ D, D = decRef S := ⟨_, rfl⟩
            obtain ⟨hx1, hx2, hx3⟩ := Hexit.out Hk1.out
            rw [← hD] at hx2 hx3
            have hown2 := Hown.out
            rw [hx2, ← hx3] at hown2
            have hbs := row_sl' hown2
            have Hown2 := Lib.hid hown2
            have HD := Lib.hid hD
            have Hm2 := Lib.hid hx3
            clear hown2 hD hx1 hx2 hx3 hwr
            go_wp2_with fail
            refine (base64_ref_at wr D Ak m ck Hm2.out.symm hbs (by omega)).mono ?_
            rintro e w1 ⟨rfl, hB1⟩
            have HB1 : Hid (Below w.heap.size w w1) := Lib.hid (HB.out.trans (hB1.mono HB.out.size))
            have Hown1 : Hid (w1.ownsRow w.heap.size 5 1 (.slice Ak D.length ck) D.length (u8s D)) := Lib.hid (own_keep Hown2.out fun g cs hg => (hB1.block g (lt_of_heap hg)).trans hg)
            clear hB1 hbs
            obtain ⟨Z, hZ⟩ : ∃ Z : ByteArray, Z = ⟨(b64 D).toArray⟩ := ⟨_, rfl⟩
            rw [← hZ]
            have HZ := Lib.hid hZ
            clear hZ
            by_cases he : Z = s
            · have hq : (Z.toList == s.toList) = true := by rw [he]; exact BEq.rfl
              have He := Lib.hid he
              clear he
              go_wp2_with fail
              go_ret2
              rw [← Hm2.out]
              refine ⟨HB1.out, .inl ⟨D, _, ?_, rfl, Hown1.out⟩⟩
              rw [HSS.out, ← He.out, HZ.out]
            · have hq : (Z.toList == s.toList) = false := by rw [str_eq]; simp [he]
              have He := Lib.hid he
              clear he
              go_wp2_with fail
              go_ret2
              refine ⟨HB1.out, .inr ⟨fun b hb => He.out ?_, rfl⟩⟩
              rw [HZ.out, HD.out, ← hb, dec_ref, hb, HSS.out]
  · have hne : ((s.size : Int) % 4 != 0) = true := by rw [bne_iff_ne]; have := HS.out; omega
    have H4 := Lib.hid h4
    clear h4
    go_enter Tryd.func43, Tryd.ntmps43
    go_wp2_with fail
    go_ret2
    refine ⟨Below.refl _ _, .inr ⟨fun b hb => H4.out ?_, rfl⟩⟩
    rw [← hb, b64_length]
    omega
end Go.Proofs.YtfbdjfljgcfikaaDoor
