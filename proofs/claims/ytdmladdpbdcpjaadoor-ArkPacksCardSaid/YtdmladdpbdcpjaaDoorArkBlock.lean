/-
  SHA-256 of the package: a block.
-/
import Derived.Test.YtdmladdpbdcpjaaDoorArkBlk0
import Derived.RegionTactic
import Derived.Deep.RegionWith
import Derived.Deep.RegionHeld3
import Derived.Deep.QuietTactic
import Derived.BigQuiet
namespace Go.Proofs.YtdmladdpbdcpjaaDoor
open Go.RowKit

attribute [local go_sem] lt1 lt2 lt3 lt4 lt5 lt6

theorem add32_mod5 (a b c d e : Nat) : (((a : Int) + (b : Int) + (c : Int) + (d : Int)) % 4294967296 + (e : Int)) % 4294967296 = ((add32 (add32 (add32 (add32 a b) c) d) e : Nat) : Int) := by
  unfold add32
  omega
theorem quiet_add_same {P : Program} {f : FuncId} {args : Array Value} {w : World} {a n : Nat} {v : Value}
    (h : Calls P f args (w.drewN (a + n)) fun e w' => e = .returned v ∧ w' = w.drewN (a + n)) :
    Calls P f args (w.drewN (a + n)) fun e w'' => e = .returned v ∧ ∃ m, w'' = w.drewN (a + m) :=
  h.mono fun _ _ ⟨he, hm⟩ => ⟨he, n, hm⟩
set_option maxHeartbeats 20000000 in
set_option maxRecDepth 100000 in
theorem block_any (w : World) (s : List Nat) (b : List UInt8) (A : Option Addr) (c kb : Nat) (hs : s.length = 8) (fs : Fit s) (hb : Bs w A c b) (hl : b.length = 64) (hk : w.heap[kb]? = some (.cells (u32s shaK).toArray 76 (0, 0))) :
    Calls Tryd.prog 60 #[.agg (u32s s).toArray, .slice A b.length c, .pointer (some ⟨kb, 0, none⟩)] w (BlkPost w s b) := by
  have hz := zeroState
  have hz2 := zeroRow
  have hZs := zero64_size
  generalize zero64 = Z at *
  obtain ⟨V, hV⟩ : ∃ V, V = (u32s (sched b 64)).toArray := ⟨_, rfl⟩
  have HV := Lib.hid hV
  have HVs := Lib.hid (show V.size = 64 by rw [hV]; simp [u32s, sched_length])
  have HV1 := Lib.hid (show V.all (·.oneCell') = true by rw [hV]; exact u32s_one _)
  have hsch : ∀ (w' : World) (hb' : Bs w' A c b), Calls Tryd.prog 83 #[.slice A b.length c] w' (fun e w'' => e = .returned (.agg V) ∧ Below w'.heap.size w' w'') := fun w' hb' => (schedule_any w' b A c hb' hl).mono (by rintro e w'' ⟨rfl, h⟩; exact ⟨by rw [hV], h⟩)
  clear hV
  have Hsch := Lib.hid hsch
  have Hb := Lib.hid hb
  have Hk := Lib.hid hk
  have Hfs := Lib.hid fs
  clear hsch hk hb fs
  have hl1 : 64 ≤ b.length := by omega
  have hl2 : b.length ≤ 64 := by omega
  clear hl
  generalize b.length = L at *
  obtain ⟨x, hx⟩ : ∃ x, x = (u32s s).toArray := ⟨_, rfl⟩
  have Hxs := Lib.hid (show x.size = 8 by rw [hx]; simp [u32s, hs])
  have Hx1 := Lib.hid (show x.all (·.oneCell') = true by rw [hx]; exact u32s_one _)
  obtain ⟨z, hzz⟩ : ∃ z, z = (u32s (List.replicate 8 0)).toArray := ⟨_, rfl⟩
  have Hzs := Lib.hid (show z.size = 8 by rw [hzz]; simp [u32s])
  rw [← hx]
  rw [← hzz] at hz
  have Hzz := Lib.hid hzz
  have Hx := Lib.hid hx
  have HZs := Lib.hid hZs
  clear hx hzz hZs
  go_enter Tryd.func60, Tryd.ntmps60
  go_wp2_with fail
  refine (Hsch.out _ (Hb.out.keep ((Cells.alloc _ _).trans (Cells.alloc _ _)))).mono ?_
  rintro e ws ⟨rfl, hBs⟩
  have Hs0 := Lib.hid ((hBs.block w.heap.size (by simp; omega)).trans ((Below.heap_alloc _ _ _ (by simp)).trans (heap_alloc_new w _)))
  have Hs1 := Lib.hid ((hBs.block (w.heap.size + 1) (by simp)).trans (heap_alloc2 _ _ _))
  have Hsz := Lib.hid (show w.heap.size + 2 ≤ ws.heap.size by simpa using hBs.size)
  have HBs : Hid (Below w.heap.size w ws) := Lib.hid ((((Below.refl _ _).alloc (Nat.le_refl _) _).alloc (by simp) _).trans (hBs.mono (by simp; omega)))
  clear hBs
  go_wp2_with (first
    | (refine wpList_store_row rfl 76 _ _ rfl ws.heap.size V rfl rfl 76 Z (heap_alloc_new ws _) (by rw [HVs.out]; exact infoRow) (by rw [HZs.out, HVs.out]) HV1.out ?_; rw [World.setRow_alloc_new])
    | (refine wpList_load_row rfl 79 _ rfl w.heap.size rfl 79 x (0, 0) _ ((Below.heap_alloc _ _ _ (lt_of_heap Hs0.out)).trans Hs0.out) Tryd.underlying79 rfl (by rw [Hxs.out]; exact infoState) ?_)
    | (refine wpList_store_row rfl 79 _ _ rfl (ws.heap.size + 1) x rfl rfl 79 z (heap_alloc2 _ _ _) (by rw [Hxs.out]; exact infoState) (by rw [Hzs.out, Hxs.out]) Hx1.out ?_; rw [show ws.heap.size + 1 = (ws.alloc (.cells V 76)).heap.size by simp, World.setRow_alloc_new]))
  have hinit : BlkRel w ws.heap.size s b x z V (.int .i64 (0 : Nat)) ((ws.alloc (.cells V 76)).alloc (.cells x 79)) := by
    have h0 : ∀ k, k < ws.heap.size → ((ws.alloc (.cells V 76)).alloc (.cells x 79)).heap[k]? = ws.heap[k]? := fun k hk => (Below.heap_alloc _ _ _ (by simp; omega)).trans (Below.heap_alloc _ _ _ hk)
    have hz := Hsz.out
    refine ⟨0, by omega, rfl, HBs.out.trans (((Below.refl _ _).alloc (by omega) _).alloc (by simp; omega) _), (h0 _ (by omega)).trans Hs0.out, (h0 _ (by omega)).trans Hs1.out, ?_, ?_⟩
    · exact (Below.heap_alloc _ _ _ (by simp)).trans (heap_alloc_new _ _)
    · rw [heap_alloc2, Hx.out]
      rfl
  have Hinit := Lib.hid hinit
  clear hinit Hs0 Hs1
  generalize ws.heap.size = g at *
  go_loopw [19] (fun iv wr => BlkRel w g s b x z V iv wr) (fun iv _ => 64 - (intOf iv).toNat)
  case atStart => exact Hinit.out
  case round =>
    obtain ⟨k, hk, rfl, hB, hb0, hb1, hV, hX⟩ := hrel
    have HB := Lib.hid hB
    have Hb0 := Lib.hid hb0
    have Hb1 := Lib.hid hb1
    have HgV := Lib.hid hV
    have HX := Lib.hid hX
    clear hB hb0 hb1 hV hX
    by_cases hlt : k < 64
    · have hkk : wr.cell? ⟨kb, k, none⟩ = some (.int .u32 (shaK.getD k 0 : Nat)) :=
        ((blk_cells (((HB.out.block kb (lt_of_heap Hk.out))).trans Hk.out)).1 k).trans (u32s_at (by simpa [shaK] using hlt))
      have hvv : wr.cell? ⟨g, k, none⟩ = some (.int .u32 ((sched b 64).getD k 0 : Nat)) := by
        have h := HgV.out
        rw [HV.out] at h
        exact ((blk_cells h).1 k).trans (u32s_at (by rw [sched_length]; exact hlt))
      have f8 := rounds_fit (sched b 64) Hfs.out k
      obtain ⟨x0, x1, x2, x3, x4, x5, x6, x7, he⟩ := eight (rounds_length (sched b 64) s hs k)
      have hr : roundW [x0, x1, x2, x3, x4, x5, x6, x7] (shaK.getD k 0) ((sched b 64).getD k 0) = rounds (sched b 64) s (k + 1) := by rw [← he]; rfl
      simp only [roundW, List.getD_cons_zero, List.getD_cons_succ] at hr
      have Hr := Lib.hid hr
      clear hr
      have Hstep := Lib.hid (fun (N v0 v1 v2 v3 v4 v5 v6 v7 : Nat) h => blk_step (wr := wr.drewN N) ⟨HB.out.os, HB.out.tape, HB.out.output, HB.out.size, HB.out.block⟩ Hb0.out Hb1.out HgV.out HX.out (rounds_length (sched b 64) s hs k) Hsz.out v0 v1 v2 v3 v4 v5 v6 v7 (b := b) (s := s) h hlt)
      have hX := HX.out
      rw [he] at hX f8
      have cx := (blk_cells hX).1
      have hfz := (blk_cells hX).2.1
      have h0 := (cx 0).trans (u32s_at (by simp))
      have h1 := (cx 1).trans (u32s_at (by simp))
      have h2 := (cx 2).trans (u32s_at (by simp))
      have h3 := (cx 3).trans (u32s_at (by simp))
      have h4 := (cx 4).trans (u32s_at (by simp))
      have h5 := (cx 5).trans (u32s_at (by simp))
      have h6 := (cx 6).trans (u32s_at (by simp))
      have h7 := (cx 7).trans (u32s_at (by simp))
      have y0 := f8.getD 0
      have y1 := f8.getD 1
      have y2 := f8.getD 2
      have y3 := f8.getD 3
      have y4 := f8.getD 4
      have y5 := f8.getD 5
      have y6 := f8.getD 6
      have y7 := f8.getD 7
      simp only [List.getD_cons_zero, List.getD_cons_succ] at h0 h1 h2 h3 h4 h5 h6 h7 y0 y1 y2 y3 y4 y5 y6 y7
      have Y0 := Lib.hid y0
      have Y1 := Lib.hid y1
      have Y2 := Lib.hid y2
      have Y4 := Lib.hid y4
      have Y5 := Lib.hid y5
      have Y6 := Lib.hid y6
      clear he hX cx f8 y0 y1 y2 y3 y4 y5 y6 y7
      generalize shaK.getD k 0 = kn at *
      generalize (sched b 64).getD k 0 = wn at *
      have hz8 : ∀ w : World, (zeroValue 79).run Tryd.prog w = .ok (.agg #[.int .u32 0, .int .u32 0, .int .u32 0, .int .u32 0, .int .u32 0, .int .u32 0, .int .u32 0, .int .u32 0]) w := zeroState
      clear hz
      have hi1 : (0 : Int) ≤ k := by omega
      have hi2 : (k : Int) < 64 := by omega
      have rx4_6 : ∀ w, Calls Tryd.prog 84 #[.int .u32 (x4 : Nat), .int .i64 6] w fun e w' => e = .returned (.int .u32 (rotr x4 6 : Nat)) ∧ w' = w := fun w => (right_any x4 6 w Y4.out (by decide) (by decide)).mono fun e w' ⟨h, h'⟩ => ⟨h, h'.symm⟩
      have rx4_11 : ∀ w, Calls Tryd.prog 84 #[.int .u32 (x4 : Nat), .int .i64 11] w fun e w' => e = .returned (.int .u32 (rotr x4 11 : Nat)) ∧ w' = w := fun w => (right_any x4 11 w Y4.out (by decide) (by decide)).mono fun e w' ⟨h, h'⟩ => ⟨h, h'.symm⟩
      have rx4_25 : ∀ w, Calls Tryd.prog 84 #[.int .u32 (x4 : Nat), .int .i64 25] w fun e w' => e = .returned (.int .u32 (rotr x4 25 : Nat)) ∧ w' = w := fun w => (right_any x4 25 w Y4.out (by decide) (by decide)).mono fun e w' ⟨h, h'⟩ => ⟨h, h'.symm⟩
      have rx0_2 : ∀ w, Calls Tryd.prog 84 #[.int .u32 (x0 : Nat), .int .i64 2] w fun e w' => e = .returned (.int .u32 (rotr x0 2 : Nat)) ∧ w' = w := fun w => (right_any x0 2 w Y0.out (by decide) (by decide)).mono fun e w' ⟨h, h'⟩ => ⟨h, h'.symm⟩
      have rx0_13 : ∀ w, Calls Tryd.prog 84 #[.int .u32 (x0 : Nat), .int .i64 13] w fun e w' => e = .returned (.int .u32 (rotr x0 13 : Nat)) ∧ w' = w := fun w => (right_any x0 13 w Y0.out (by decide) (by decide)).mono fun e w' ⟨h, h'⟩ => ⟨h, h'.symm⟩
      have rx0_22 : ∀ w, Calls Tryd.prog 84 #[.int .u32 (x0 : Nat), .int .i64 22] w fun e w' => e = .returned (.int .u32 (rotr x0 22 : Nat)) ∧ w' = w := fun w => (right_any x0 22 w Y0.out (by decide) (by decide)).mono fun e w' ⟨h, h'⟩ => ⟨h, h'.symm⟩
      clear hz8
      go_wp2_with fail
      go_quiet (first | (go_at_call 84; with_reducible exact Calls.quiet_of_same (rx4_6 _)) | (go_at_call 84; with_reducible exact Calls.quiet_of_same (rx4_11 _)) | (go_at_call 84; with_reducible exact Calls.quiet_of_same (rx4_25 _)))
      rw [big1_int Y4.out]
      generalize big1 x4 = t1 at *
      clear rx4_6 rx4_11 rx4_25
      go_wp2_with fail
      rw [chose_int Y4.out Y5.out Y6.out]
      generalize chose x4 x5 x6 = t2 at *
      go_quiet (fail)
      rw [add32_mod5]
      generalize add32 (add32 (add32 (add32 x7 t1) t2) kn) wn = t3 at *
      go_wp2_with fail
      go_quiet (first | (go_at_call 84; with_reducible exact quiet_add_same (rx0_2 _)) | (go_at_call 84; with_reducible exact quiet_add_same (rx0_13 _)) | (go_at_call 84; with_reducible exact quiet_add_same (rx0_22 _)))
      rw [big0_int Y0.out]
      generalize big0 x0 = t4 at *
      clear rx0_2 rx0_13 rx0_22
      go_wp2_with fail
      rw [most_int Y0.out Y1.out Y2.out, add32_mod3, add32_mod]
      refine ⟨?_, by simp [intOf]; omega⟩
      refine Hstep.out _ _ _ _ _ _ _ _ _ Hr.out
    · obtain rfl : k = 64 := by omega
      have Hst := Lib.hid (add_start hs ⟨64, Nat.le_refl _, rfl, HB.out, Hb0.out, Hb1.out, HgV.out, HX.out⟩)
      clear HB Hb0 Hb1 HgV HX hlt hk
      go_wp2_with fail
      generalize wr = wo at *
      go_loopw [112] (fun iv wr => AddRel w g s b x z iv wr) (fun iv _ => 8 - (intOf iv).toNat)
      case atStart => exact Hst.out
      case round =>
        obtain ⟨k, cs, hk, rfl, hB, hb0, hb1, hX, hcs, ha, hb⟩ := hrel
        have HB := Lib.hid hB
        have Hb0 := Lib.hid hb0
        have Hb1 := Lib.hid hb1
        have HX := Lib.hid hX
        have Ha := Lib.hid ha
        have Hbb := Lib.hid hb
        clear hB hb0 hb1 hX ha hb
        by_cases hlt : k < 8
        · have cx := blk_cells HX.out
          have hfz := cx.2.1
          have hxk := (cx.1 k).trans (Hbb.out k (Nat.le_refl _) hlt)
          have h0 := Hb0.out
          rw [Hx.out] at h0
          have hsk := ((blk_cells h0).1 k).trans (u32s_at (by omega))
          have Hsum := Lib.hid (compress_at (s := s) (b := b) hs hlt)
          generalize (rounds (sched b 64) s 64).getD k 0 = rk at *
          generalize s.getD k 0 = sk at *
          have Hstep := Lib.hid (add_step HB.out Hb0.out Hb1.out HX.out hcs Ha.out Hbb.out hlt Hsz.out)
          clear cx h0
          have hi1 : (0 : Int) ≤ k := by omega
          have hi2 : (k : Int) < 8 := by omega
          go_wp2_with fail
          have hne : (⟨g + 1, k, none⟩ : Addr) ≠ ⟨w.heap.size, k, none⟩ := fun h => by have h2 := congrArg Addr.block h; have := Hsz.out; simp at h2; omega
          go_region
          all_goals
            go_wp2_with fail
            rw [add32_mod, ← Hsum.out]
            have hst := Hstep.out
            clear Hstep
            refine ⟨hst, ?_⟩
            simp [intOf]; omega
        · obtain rfl : k = 8 := by omega
          have he := add_end hs hcs Ha.out
          subst he
          clear Ha Hbb
          have hfin := setRow_heap wr (w.heap.size + 1) z (u32s (compress s b)).toArray _ _ Hb1.out
          have Hfin := Lib.hid hfin
          clear hfin
          go_wp2_with (first
            | (refine wpList_load_row rfl 79 _ rfl (g + 1) rfl 79 _ (0, 0) _ HX.out Tryd.underlying79 rfl (by rw [hcs]; exact infoState) ?_)
            | (refine wpList_store_row rfl 79 _ _ rfl (w.heap.size + 1) (u32s (compress s b)).toArray rfl rfl 79 z Hb1.out (by rw [hcs]; exact infoState) (by rw [Hzs.out, hcs]) (u32s_one _) ?_))
          refine bodyPost_ret (v := .agg (u32s (compress s b)).toArray) ?_ rfl ⟨rfl, HB.out.trans ?_⟩
          · exact results_cell_row Tryd.results60 _ _ _ _ _ _ _ rfl Hfin.out Tryd.underlying79 rfl (by rw [hcs]; exact infoState)
          · exact ⟨rfl, rfl, rfl, by simp, fun k hk => setRow_other _ _ _ _ (by omega)⟩
end Go.Proofs.YtdmladdpbdcpjaaDoor
