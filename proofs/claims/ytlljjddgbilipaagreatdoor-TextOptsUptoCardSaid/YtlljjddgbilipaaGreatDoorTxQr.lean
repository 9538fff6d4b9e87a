/-
  The reference's Quote.
-/
import Derived.Test.YtlljjddgbilipaaGreatDoorTxWord
import Derived.RegionTactic
import Derived.Deep.RegionLaw
import Derived.Deep.RegionWith
namespace Go.Proofs.YtlljjddgbilipaaGreatDoor
open Go.RowKit

set_option linter.unusedSimpArgs false

attribute [local go_sem] lt1 lt2 lt3 lt4 lt5 lt6

theorem hexI_all : ∀ a : Fin 16, (hexB.data.toList.getD a.val 0) = hexD a.val := by decide +kernel
theorem hexI_at (a : Nat) (h : a < 16) : (⟨#[48, 49, 50, 51, 52, 53, 54, 55, 56, 57, 97, 98, 99, 100, 101, 102]⟩ : ByteArray)[a]'(show a < 16 from h) = hexD a := by
  have hs : a < hexB.size := h
  have := str_byte hs
  rw [show (toL hexB).getD a 0 = hexD a from hexI_all ⟨a, h⟩] at this
  exact this
def QrRel (w : World) (s : ByteArray) (ov iv : Value) (wr : World) : Prop := ∃ (i : Nat) (T : List UInt8), i ≤ s.size ∧ iv = .int .i64 i ∧ T = 34 :: ((toL s).take i).flatMap quoteB ∧ wr.ownsRow w.heap.size 5 1 ov T.length (u8s T) ∧ Below w.heap.size w wr
theorem u8s_pushes {w : World} {base : Nat} {v : Value} {D X : List UInt8} {n : Nat} {xs : List Value} (hx : xs = u8s X) (hn : n = X.length) (h : w.ownsRow base 5 1 v (D.length + n) (u8s D ++ xs)) : w.ownsRow base 5 1 v (D ++ X).length (u8s (D ++ X)) := by
  subst hx hn
  rw [List.length_append, show u8s (D ++ X) = u8s D ++ u8s X by simp [u8s]]
  exact h
set_option maxRecDepth 100000 in
set_option maxHeartbeats 4000000 in
theorem quote_ref (w : World) (s : ByteArray) (hl : s.size ≤ 1048576) :
    Calls Tryz.prog 43 #[.string s] w fun e w' => e = .returned (.string (mkS (quoteL (toL s)))) ∧ Below w.heap.size w w' := by
  obtain ⟨i0, hi0, hz0, hz1, hz2⟩ := info_parts infoU8
  go_enter Tryz.func43, Tryz.ntmps43
  go_wp2_with fail
  go_loopw [4, 5] (fun ov iv wr => QrRel w s ov iv wr) (fun _ iv _ => s.size - (intOf iv).toNat)
  case atStart => exact ⟨0, [34], by omega, rfl, by simp, own_of_block (Nat.le_refl _) (heap_alloc_new w _) (by show (1 : Nat) ≤ maxLen; unfold maxLen; omega), (Below.refl _ _).alloc (Nat.le_refl _) _⟩
  case round =>
    obtain ⟨i, T, hi, rfl, hT, hown, hB⟩ := hrel
    have HT := Lib.hid hT
    have Hown := Lib.hid hown
    have HB := Lib.hid hB
    have hsz := hB.size
    obtain ⟨Av, cv, rfl, _, _, _, _⟩ := own_form hown
    have hlen : T.length ≤ 6 * s.size + 1 := (by
      have := quotes_len ((toL s).take i)
      rw [List.length_take, toL_len] at this
      rw [hT]
      simp only [List.length_cons]
      omega)
    clear hown hB hT
    have hir : (0 : Int) ≤ i := by omega
    by_cases hlt : i < s.size
    case neg =>
      have hIl : ¬ (i : Int) < s.size := by omega
      have Hfull : Hid (T ++ [34] = quoteL (toL s)) := Lib.hid (by
        rw [HT.out, List.take_of_length_le (by rw [toL_len]; omega)]; rfl)
      clear HT
      go_wp2_with (first | (at_builtin; refine wpList_append_own _ rfl _ _ 30 rfl w.heap.size 5 i0 (.int .u8 0) 1 1 Tryz.underlying30 hi0 hz0 hz1 hz2 rfl (by omega) (.slice Av T.length cv) T.length (u8s T) rfl (Hown.out.alloc _) ⟨wr.heap.size, 0, none⟩ 1 1 [.int .u8 34] rfl rfl (fun j v hv => World.news_of_block (w := wr.alloc _) (heap_alloc_new wr _) j v hv) (one_cell _) (by unfold maxLen; omega) (by omega) (by simp; omega) ?_))
      intro v1 wp hown1 hgrow1 _
      have hown2 := u8s_pushes (X := [34]) rfl rfl hown1
      have HB2 := Lib.hid ((HB.out.alloc hsz _).grown hgrow1 (by simp; omega) (fun k hk => (own_blk Hown.out k hk).1))
      rw [Hfull.out] at hown2
      obtain ⟨A1, c1, hv1, hbs⟩ := own_bs hown2
      subst hv1
      have hcv := str_of_bs hbs
      have hql : (quoteL (toL s)).length = T.length + 1 := by rw [← Hfull.out]; simp
      obtain ⟨QL, hQL⟩ : ∃ Q, Q = quoteL (toL s) := ⟨_, rfl⟩
      rw [← hQL] at hcv hql ⊢
      have HQL := Lib.hid hQL
      clear hown1 hown2 hgrow1 hbs hql hQL
      go_wp2_with fail
      go_ret
      exact ⟨by rw [← HQL.out]; rfl, HB2.out⟩
    have hIl : (i : Int) < s.size := by omega
    have hbt := str_byte hlt
    have Hst := Lib.hid (quote_step (l := toL s) (i := i) (by rw [toL_len]; omega))
    obtain ⟨c, hc⟩ : ∃ c, c = (toL s).getD i 0 := ⟨_, rfl⟩
    rw [← hc] at hbt Hst
    have Hfin : Hid (∀ v1 wp (n : Nat) xs, xs = u8s (quoteB c) → n = (quoteB c).length → wp.ownsRow w.heap.size 5 1 v1 (T.length + n) (u8s T ++ xs) → Below w.heap.size w wp → QrRel w s v1 (.int .i64 ((i : Int) + 1)) wp) := Lib.hid fun v1 wp n xs hx hn ho hb => ⟨i + 1, T ++ quoteB c, by omega, rfl, by rw [Hst.out, HT.out], u8s_pushes hx hn ho, hb⟩
    clear hc Hst HT
    by_cases he : c = 34 ∨ c = 92
    · have hq : quoteB c = [92, c] := by unfold quoteB; rw [if_pos he]
      have hE : ((c.toNat : Int) == 34) = true ∨ ((c.toNat : Int) == 34) = false ∧ ((c.toNat : Int) == 92) = true := by
        rcases he with rfl | rfl
        · exact .inl rfl
        · exact .inr ⟨rfl, rfl⟩
      have Hq := Lib.hid hq
      clear he hq
      rcases hE with h34 | ⟨h34, h92⟩
      all_goals
        go_wp2_with (first | (at_builtin; refine wpList_append_own _ rfl _ _ 30 rfl w.heap.size 5 i0 (.int .u8 0) 1 1 Tryz.underlying30 hi0 hz0 hz1 hz2 rfl (by omega) (.slice Av T.length cv) T.length (u8s T) rfl (Hown.out.alloc _) ⟨wr.heap.size, 0, none⟩ 2 2 [.int .u8 92, .int .u8 (c.toNat : Nat)] rfl rfl (fun j v hv => World.news_of_block (w := wr.alloc _) (heap_alloc_new wr _) j v hv) (u8s_one [92, c]) (by unfold maxLen; omega) (by omega) (by simp; omega) ?_))
        intro v1 wp hown1 hgrow1 _
        have Hf : Hid (QrRel w s v1 (.int .i64 ((i : Int) + 1)) wp) := Lib.hid (Hfin.out v1 wp 2 _ (by rw [Hq.out]; rfl) (by rw [Hq.out]; rfl) hown1 ((HB.out.alloc hsz _).grown hgrow1 (by simp; omega) (fun k hk => (own_blk Hown.out k hk).1)))
        obtain ⟨Av1, cv1, hv1, _, _, _, _⟩ := own_form hown1
        subst hv1
        clear hown1 hgrow1
        go_wp2_with fail
        exact ⟨Hf.out, by simp [intOf]; omega⟩
    have h34 : ((c.toNat : Int) == 34) = false := by rw [beq_eq_false_iff_ne]; intro h; exact he (.inl (UInt8.toNat_inj.1 (by show c.toNat = 34; omega)))
    have h92 : ((c.toNat : Int) == 92) = false := by rw [beq_eq_false_iff_ne]; intro h; exact he (.inr (UInt8.toNat_inj.1 (by show c.toNat = 92; omega)))
    by_cases ho : oddB c = true
    · have Hq : Hid (quoteB c = [92, 117, 48, 48, hexD (c.toNat / 16), hexD (c.toNat % 16)]) := Lib.hid (by unfold quoteB; rw [if_neg (odd_no_esc ho), if_pos ho])
      have q1 : (c.toNat : Int).tdiv 16 = ((c.toNat / 16 : Nat) : Int) := by rw [Int.tdiv_eq_ediv_of_nonneg (by omega)]; omega
      have q2 : (c.toNat : Int).tmod 16 = ((c.toNat % 16 : Nat) : Int) := by rw [Int.tmod_eq_emod_of_nonneg (by omega)]; omega
      have hcl := c.toNat_lt
      have ha : c.toNat / 16 < 16 := by omega
      have hb : c.toNat % 16 < 16 := by omega
      have hO : (c.toNat : Int) < 32 ∨ ¬ (c.toNat : Int) < 32 ∧ (127 : Int) ≤ c.toNat := by unfold oddB at ho; simp at ho; omega
      clear ho he
      rcases hO with h32 | ⟨h32, h127⟩
      all_goals
        go_wp2_with fail
        generalize c.toNat / 16 = a at *
        generalize c.toNat % 16 = b at *
        have a1 : IntKind.u8.wrap (a : Int) = a := wrap_u8 (by omega) (by omega)
        have b1 : IntKind.u8.wrap (b : Int) = b := wrap_u8 (by omega) (by omega)
        have a3 : (0 : Int) ≤ a := by omega
        have a5 : (a : Int) < 16 := by omega
        have b3 : (0 : Int) ≤ b := by omega
        have b5 : (b : Int) < 16 := by omega
        have c1 := hexI_at a ha
        have c2 := hexI_at b hb
        have Hnw : Hid (∀ j v, [Value.int .u8 92, .int .u8 117, .int .u8 48, .int .u8 48, .int .u8 ((hexD a).toNat : Nat), .int .u8 ((hexD b).toNat : Nat)][j]? = some v → (wr.drew.alloc (.cells #[.int .u8 92, .int .u8 117, .int .u8 48, .int .u8 48, .int .u8 ((hexD a).toNat : Nat), .int .u8 ((hexD b).toNat : Nat)] 5)).cell? ((⟨wr.heap.size, 0, none⟩ : Addr).add j) = some v) := Lib.hid (fun j v hv => World.news_of_block (w := wr.drew.alloc _) (heap_alloc_new wr.drew _) j v hv)
        have HownZ : Hid (∀ o', (wr.drew.alloc o').ownsRow w.heap.size 5 1 (.slice Av T.length cv) T.length (u8s T)) := Lib.hid (fun o' => own_keep Hown.out fun g' c' hg' => (Below.heap_alloc wr o' g' (lt_of_heap hg')).trans hg')
        have Hone : Hid (∀ v ∈ [Value.int .u8 92, .int .u8 117, .int .u8 48, .int .u8 48, .int .u8 ((hexD a).toNat : Nat), .int .u8 ((hexD b).toNat : Nat)], v.oneCell' = true) := Lib.hid (u8s_one [92, 117, 48, 48, hexD a, hexD b])
        go_region_law (refine step_append_lies _ (by rfl) _ _ 30 (by rfl) w.heap.size 5 i0 (.int .u8 0) 1 1 Tryz.underlying30 hi0 hz0 hz1 hz2 (by rfl) (by omega) (.slice Av T.length cv) T.length (u8s T) (by rfl) (HownZ.out _) ⟨wr.heap.size, 0, none⟩ 6 6 [.int .u8 92, .int .u8 117, .int .u8 48, .int .u8 48, .int .u8 ((hexD a).toNat : Nat), .int .u8 ((hexD b).toNat : Nat)] (by rfl) (by rfl) Hnw.out Hone.out (by omega) (by simp [maxLen]; omega) (by omega) (by simp; omega) (wr.heap.size + 1) (by simp) ?_; intro g cap z2 hown hgrow hat hlt2; have hown := Lib.hid hown; have hgrow := Lib.hid hgrow)
        all_goals
          have Hf : Hid (QrRel w s (.slice (some ⟨g, 0, none⟩) (T.length + 6) cap) (.int .i64 ((i : Int) + 1)) z2) := Lib.hid (Hfin.out _ z2 6 _ (by rw [Hq.out]; rfl) (by rw [Hq.out]; rfl) hown.out (((HB.out.alloc hsz _).drew).grown hgrow.out (by simp; omega) (fun k hk => (own_blk Hown.out k hk).1)))
          clear hown hgrow hat hlt2 a1 a3 a5 b1 b3 b5 c1 c2 q1 q2 ha hb
          go_wp2_with fail
          exact ⟨Hf.out, by simp [intOf]; omega⟩
    · have hq : quoteB c = [c] := by unfold quoteB; rw [if_neg he, if_neg ho]
      have h32 : ¬ (c.toNat : Int) < 32 := by unfold oddB at ho; simp at ho; omega
      have h127 : ¬ (127 : Int) ≤ c.toNat := by unfold oddB at ho; simp at ho; omega
      have Hq := Lib.hid hq
      clear ho he hq
      go_wp2_with (first | (at_builtin; refine wpList_append_own _ rfl _ _ 30 rfl w.heap.size 5 i0 (.int .u8 0) 1 1 Tryz.underlying30 hi0 hz0 hz1 hz2 rfl (by omega) (.slice Av T.length cv) T.length (u8s T) rfl (Hown.out.alloc _) ⟨wr.heap.size, 0, none⟩ 1 1 [.int .u8 (c.toNat : Nat)] rfl rfl (fun j v hv => World.news_of_block (w := wr.alloc _) (heap_alloc_new wr _) j v hv) (one_cell _) (by unfold maxLen; omega) (by omega) (by simp; omega) ?_))
      intro v1 wp hown1 hgrow1 _
      have Hf : Hid (QrRel w s v1 (.int .i64 ((i : Int) + 1)) wp) := Lib.hid (Hfin.out v1 wp 1 _ (by rw [Hq.out]; rfl) (by rw [Hq.out]; rfl) hown1 ((HB.out.alloc hsz _).grown hgrow1 (by simp; omega) (fun k hk => (own_blk Hown.out k hk).1)))
      obtain ⟨Av1, cv1, hv1, _, _, _, _⟩ := own_form hown1
      subst hv1
      clear hown1 hgrow1
      go_wp2_with fail
      exact ⟨Hf.out, by simp [intOf]; omega⟩
end Go.Proofs.YtlljjddgbilipaaGreatDoor
