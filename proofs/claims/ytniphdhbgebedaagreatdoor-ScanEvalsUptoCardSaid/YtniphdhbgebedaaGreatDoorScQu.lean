/-
  scan.quoted: a string in quotes.
-/
import Derived.Test.YtniphdhbgebedaaGreatDoorScTk
namespace Go.Proofs.YtniphdhbgebedaaGreatDoor
open Go.RowKit Go.Maps

set_option linter.unusedSimpArgs false

attribute [local go_sem] lt1 lt2 lt3 lt4 lt5 lt6

theorem quoF_esc (c : UInt8) (r b : List UInt8) (n : Nat) : quoF (92 :: c :: r) b n = if c = 34 ∨ c = 92 then quoF r (b ++ [c]) (n + 2) else none := by rw [quoF]
theorem quoF_else {c : UInt8} (r b : List UInt8) (n : Nat) (h1 : c ≠ 34) (h2 : c ≠ 10) (h3 : c ≠ 92) : quoF (c :: r) b n = quoF r (b ++ [c]) (n + 1) := by
  rw [quoF]
  · intro h; exact h1 h
  · intro h; exact h2 h
  · intro d r' h; exact absurd h h3
  · intro h; exact absurd h h3
def quoR (L : List UInt8) : List UInt8 × Nat := match quoF (L.drop 1) [] 1 with
  | some x => x
  | none => ([], 0)
def QuPost (w : World) (s : ByteArray) (e : Ending) (w' : World) : Prop := e = .returned (.tuple #[.string (mkS (quoR (toL s)).1), .int .i64 ((quoR (toL s)).2 : Nat)]) ∧ Below w.heap.size w w'
theorem quoR_some {L b : List UInt8} {n : Nat} (h : quoF (L.drop 1) [] 1 = some (b, n)) : quoR L = (b, n) := by unfold quoR; rw [h]
theorem quoR_none {L : List UInt8} (h : quoF (L.drop 1) [] 1 = none) : quoR L = ([], 0) := by unfold quoR; rw [h]
def QuRel (w : World) (s : ByteArray) (bv iv : Value) (wr : World) : Prop := ∃ (i : Nat) (bl : List UInt8), 1 ≤ i ∧ i ≤ max 1 s.size ∧ iv = .int .i64 (i : Nat) ∧ bl.length ≤ i ∧ quoF ((toL s).drop 1) [] 1 = quoF ((toL s).drop i) bl i ∧ wr.ownsRow w.heap.size 5 1 bv bl.length (u8s bl) ∧ Below w.heap.size w wr
set_option maxRecDepth 100000 in
set_option maxHeartbeats 8000000 in
theorem quoted_any (w : World) (s : ByteArray) (hs : s.size ≤ 1048576) : Calls Tryz.prog 94 #[.string s] w (QuPost w s) := by
  obtain ⟨iU, hiU, hzU, hsU, hbU⟩ := info_parts infoU8
  go_enter Tryz.func94, Tryz.ntmps94
  go_wp2_with fail
  go_loopw [4, 5] (fun bv iv wr => QuRel w s bv iv wr) (fun _ iv _ => s.size - (intOf iv).toNat)
  case atStart => exact ⟨1, [], by omega, by omega, rfl, by simp, rfl, World.ownsRow_nil _ _ _ _, Below.refl _ _⟩
  case round =>
    obtain ⟨i, bl, hi1, hi2, rfl, hbl, hq, hown, hB⟩ := hrel
    have Hq := Lib.hid hq
    have Hown := Lib.hid hown
    have HB := Lib.hid hB
    have hwz := hB.size
    obtain ⟨A, c, rfl, -, -, -, -⟩ := own_form hown
    clear hq hown hB
    by_cases hlt : i < s.size
    · have hiI : (i : Int) < s.size := by omega
      have hir : (0 : Int) ≤ i := by omega
      have hd : (toL s).drop i = (toL s).getD i 0 :: (toL s).drop (i + 1) := drop_getD (by rw [toL_len]; exact hlt)
      have hsb : s[i] = (toL s).getD i 0 := str_byte hlt
      obtain ⟨q, hqe⟩ : ∃ q, q = (toL s).getD i 0 := ⟨_, rfl⟩
      rw [← hqe] at hd hsb
      have Hd := Lib.hid hd
      have Hqe := Lib.hid hqe
      clear hd hqe
      have hbz : bl.length ≤ 1048576 := by omega
      by_cases c1 : q.toNat = 34
      · have j1 : ((q.toNat : Int) == 34) = true := by rw [beq_iff_eq]; omega
        have hq34 : q = 34 := UInt8.toNat_inj.1 c1
        have hcv : (convert 55 9 (.slice A bl.length c)).run Tryz.prog wr = .ok (.string (mkS bl)) wr := by
          obtain ⟨A', c', hv, hbs⟩ := own_bs Hown.out
          cases hv
          exact str_of_bs hbs
        have Hn : Hid (quoR (toL s) = (bl, i + 1)) := Lib.hid (quoR_some (by rw [Hq.out, Hd.out, hq34]; rfl))
        clear hq34 c1
        go_wp2_with fail
        exact bodyPost_ret (results_tmp2 rfl _ _ _) rfl ⟨by rw [Hn.out]; go_num, HB.out⟩
      · have j1 : ((q.toNat : Int) == 34) = false := by rw [beq_eq_false_iff_ne]; omega
        by_cases c2 : q.toNat = 10
        · have j2 : ((q.toNat : Int) == 10) = true := by rw [beq_iff_eq]; omega
          have Hn : Hid (quoR (toL s) = ([], 0)) := Lib.hid (quoR_none (by rw [Hq.out, Hd.out, show q = 10 from UInt8.toNat_inj.1 c2]; rfl))
          clear c2
          go_wp2_with fail
          exact bodyPost_ret (results_tmp2 rfl _ _ _) rfl ⟨by rw [Hn.out]; rfl, HB.out⟩
        · have j2 : ((q.toNat : Int) == 10) = false := by rw [beq_eq_false_iff_ne]; omega
          by_cases c3 : q.toNat = 92
          · have j3 : ((q.toNat : Int) == 92) = true := by rw [beq_iff_eq]; omega
            have hq92 : q = 92 := UInt8.toNat_inj.1 c3
            have hiw : IntKind.i64.wrap ((i : Int) + 1) = (i : Int) + 1 := by rw [IntKind.wrap_i64]; omega
            by_cases hend : i + 1 = s.size
            · have hE : (((i : Int) + 1) == s.size) = true := by rw [beq_iff_eq]; omega
              have Hn : Hid (quoR (toL s) = ([], 0)) := Lib.hid (quoR_none (by rw [Hq.out, Hd.out, hq92, List.drop_of_length_le (by rw [toL_len]; omega)]; rfl))
              clear hq92 c3 hend
              go_wp2_with fail
              exact bodyPost_ret (results_tmp2 rfl _ _ _) rfl ⟨by rw [Hn.out]; rfl, HB.out⟩
            · have hE : (((i : Int) + 1) == s.size) = false := by rw [beq_eq_false_iff_ne]; omega
              have hlt2 : i + 1 < s.size := by omega
              have hiI2 : (i : Int) + 1 < s.size := by omega
              have hir2 : (0 : Int) ≤ (i : Int) + 1 := by omega
              have hit2 : ((i : Int) + 1).toNat = i + 1 := by omega
              have hd2 : (toL s).drop (i + 1) = (toL s).getD (i + 1) 0 :: (toL s).drop (i + 2) := drop_getD (by rw [toL_len]; exact hlt2)
              have hsb2 : s[i + 1] = (toL s).getD (i + 1) 0 := str_byte hlt2
              obtain ⟨q2, hqe2⟩ : ∃ q2, q2 = (toL s).getD (i + 1) 0 := ⟨_, rfl⟩
              rw [← hqe2] at hd2 hsb2
              have Hd2 := Lib.hid hd2
              clear hd2 hqe2
              by_cases c4 : q2.toNat = 34
              · have j4 : ((q2.toNat : Int) == 34) = true := by rw [beq_iff_eq]; omega
                have j4' : ((q2.toNat : Int) != 34) = false := by rw [bne_eq_false_iff_eq]; omega
                have HQ : Hid (quoF ((toL s).drop 1) [] 1 = quoF ((toL s).drop (i + 2)) (bl ++ [q2]) (i + 2)) := Lib.hid (by rw [Hq.out, Hd.out, Hd2.out, hq92, quoF_esc, if_pos (.inl (UInt8.toNat_inj.1 c4))])
                clear hq92 c3 hend c4
                go_wp2_with (at_builtin; refine wpList_append_own _ rfl (.tmp 51) (.tmp 55) 55 rfl w.heap.size 5 iU (.int .u8 0) 1 1 Tryz.underlying55 hiU hzU hsU hbU rfl (by omega) (.slice A bl.length c) bl.length (u8s bl) rfl (Hown.out.alloc _) ⟨wr.heap.size, 0, none⟩ 1 1 [.int .u8 (q2.toNat : Int)] rfl rfl (fun j v hv => World.news_of_block (w := wr.alloc _) (heap_alloc_new wr _) j v hv) (by intro u hu; rw [List.mem_singleton.1 hu]; rfl) (by unfold maxLen; omega) (by omega) (by simp; omega) ?_)
                intro v1 wp hown1 hgrow1 _
                have Hm : Hid (QuRel w s v1 (.int .i64 ((i : Int) + 2)) wp) := Lib.hid ⟨i + 2, bl ++ [q2], by omega, by omega, by go_num, by rw [List.length_append]; simp; omega, HQ.out, by rw [List.length_append, show u8s (bl ++ [q2]) = u8s bl ++ [.int .u8 (q2.toNat : Int)] by simp [u8s]]; exact hown1, (HB.out.alloc hwz _).grown hgrow1 (by simp; omega) (fun z hz => (own_blk Hown.out z hz).1)⟩
                clear hown1 hgrow1
                go_wp2_with fail
                exact ⟨Hm.out, by simp [intOf]; omega⟩
              · have j4 : ((q2.toNat : Int) == 34) = false := by rw [beq_eq_false_iff_ne]; omega
                have j4' : ((q2.toNat : Int) != 34) = true := by rw [bne_iff_ne]; omega
                by_cases c5 : q2.toNat = 92
                · have j5 : ((q2.toNat : Int) == 92) = true := by rw [beq_iff_eq]; omega
                  have j5' : ((q2.toNat : Int) != 92) = false := by rw [bne_eq_false_iff_eq]; omega
                  have HQ : Hid (quoF ((toL s).drop 1) [] 1 = quoF ((toL s).drop (i + 2)) (bl ++ [q2]) (i + 2)) := Lib.hid (by rw [Hq.out, Hd.out, Hd2.out, hq92, quoF_esc, if_pos (.inr (UInt8.toNat_inj.1 c5))])
                  clear hq92 c3 hend c5
                  go_wp2_with (at_builtin; refine wpList_append_own _ rfl (.tmp 51) (.tmp 55) 55 rfl w.heap.size 5 iU (.int .u8 0) 1 1 Tryz.underlying55 hiU hzU hsU hbU rfl (by omega) (.slice A bl.length c) bl.length (u8s bl) rfl (Hown.out.alloc _) ⟨wr.heap.size, 0, none⟩ 1 1 [.int .u8 (q2.toNat : Int)] rfl rfl (fun j v hv => World.news_of_block (w := wr.alloc _) (heap_alloc_new wr _) j v hv) (by intro u hu; rw [List.mem_singleton.1 hu]; rfl) (by unfold maxLen; omega) (by omega) (by simp; omega) ?_)
                  intro v1 wp hown1 hgrow1 _
                  have Hm : Hid (QuRel w s v1 (.int .i64 ((i : Int) + 2)) wp) := Lib.hid ⟨i + 2, bl ++ [q2], by omega, by omega, by go_num, by rw [List.length_append]; simp; omega, HQ.out, by rw [List.length_append, show u8s (bl ++ [q2]) = u8s bl ++ [.int .u8 (q2.toNat : Int)] by simp [u8s]]; exact hown1, (HB.out.alloc hwz _).grown hgrow1 (by simp; omega) (fun z hz => (own_blk Hown.out z hz).1)⟩
                  clear hown1 hgrow1
                  go_wp2_with fail
                  exact ⟨Hm.out, by simp [intOf]; omega⟩
                · have j5 : ((q2.toNat : Int) == 92) = false := by rw [beq_eq_false_iff_ne]; omega
                  have j5' : ((q2.toNat : Int) != 92) = true := by rw [bne_iff_ne]; omega
                  have Hn : Hid (quoR (toL s) = ([], 0)) := Lib.hid (quoR_none (by
                    rw [Hq.out, Hd.out, Hd2.out, hq92, quoF_esc, if_neg]
                    rintro (h | h)
                    · exact c4 (by rw [h]; rfl)
                    · exact c5 (by rw [h]; rfl)))
                  clear hq92 c3 hend
                  go_wp2_with fail
                  exact bodyPost_ret (results_tmp2 rfl _ _ _) rfl ⟨by rw [Hn.out]; rfl, HB.out⟩
          · have j3 : ((q.toNat : Int) == 92) = false := by rw [beq_eq_false_iff_ne]; omega
            have HQ : Hid (quoF ((toL s).drop 1) [] 1 = quoF ((toL s).drop (i + 1)) (bl ++ [q]) (i + 1)) := Lib.hid (by rw [Hq.out, Hd.out, quoF_else _ _ _ (fun h => c1 (by rw [h]; rfl)) (fun h => c2 (by rw [h]; rfl)) (fun h => c3 (by rw [h]; rfl))])
            go_wp2_with (at_builtin; refine wpList_append_own _ rfl (.tmp 16) (.tmp 18) 55 rfl w.heap.size 5 iU (.int .u8 0) 1 1 Tryz.underlying55 hiU hzU hsU hbU rfl (by omega) (.slice A bl.length c) bl.length (u8s bl) rfl (Hown.out.alloc _) ⟨wr.heap.size, 0, none⟩ 1 1 [.int .u8 (q.toNat : Int)] rfl rfl (fun j v hv => World.news_of_block (w := wr.alloc _) (heap_alloc_new wr _) j v hv) (by intro u hu; rw [List.mem_singleton.1 hu]; rfl) (by unfold maxLen; omega) (by omega) (by simp; omega) ?_)
            intro v1 wp hown1 hgrow1 _
            have Hm : Hid (QuRel w s v1 (.int .i64 ((i : Int) + 1)) wp) := Lib.hid ⟨i + 1, bl ++ [q], by omega, by omega, by go_num, by rw [List.length_append]; simp; omega, HQ.out, by rw [List.length_append, show u8s (bl ++ [q]) = u8s bl ++ [.int .u8 (q.toNat : Int)] by simp [u8s]]; exact hown1, (HB.out.alloc hwz _).grown hgrow1 (by simp; omega) (fun z hz => (own_blk Hown.out z hz).1)⟩
            clear hown1 hgrow1
            go_wp2_with fail
            exact ⟨Hm.out, by simp [intOf]; omega⟩
    · have Hn : Hid (quoR (toL s) = ([], 0)) := Lib.hid (quoR_none (by
        rw [Hq.out, List.drop_of_length_le (by rw [toL_len]; omega)]
        rfl))
      have hiI : ¬ (i : Int) < s.size := by omega
      go_wp2_with fail
      exact bodyPost_ret (results_tmp2 rfl _ _ _) rfl ⟨by rw [Hn.out]; rfl, HB.out⟩
end Go.Proofs.YtniphdhbgebedaaGreatDoor
