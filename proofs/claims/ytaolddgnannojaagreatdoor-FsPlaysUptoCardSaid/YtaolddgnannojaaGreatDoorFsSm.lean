/-
  Same: is the package's file system as the document's?
-/
import Derived.Test.YtaolddgnannojaaGreatDoorFsOv
namespace Go.Proofs.YtaolddgnannojaaGreatDoor
open Go.RowKit Go.Maps

attribute [local go_sem] lt1 lt2 lt3 lt4 lt5 lt6

theorem quota_any (w : World) (M : FsMem) (S : FsSt) (h : FsAt w M S) : Calls Tryz.prog 59 #[.pointer (some ⟨M.fb, 0, none⟩)] w fun e w' => e = .returned (.int .i64 (S.quota : Nat)) ∧ w' = w := by
  have c : w.cell? ⟨M.fb, 0, none⟩ = some (.int .i64 (S.quota : Nat)) := (h.cell 0 _ rfl).1
  clear h
  go_enter Tryz.func59, Tryz.ntmps59
  go_wp2_with fail
  go_ret
  exact ⟨rfl, rfl⟩
def SlRel (w1 wx : World) (lo hi gr n : Nat) (iv : Value) (wr : World) : Prop := ∃ i, i ≤ n ∧ iv = .int .i64 (i : Nat) ∧ Below w1.heap.size w1 wr ∧ Kept hi wx wr ∧ (0 < n → ∃ cur, Ovr w1 wx lo hi gr n i cur wr)
def SiRel (w1 wx : World) (lo hi gr n i m : Nat) (cur : Array Value) (kv : Value) (wr : World) : Prop := ∃ k, k ≤ m ∧ kv = .int .i64 (k : Nat) ∧ Ovr w1 wx lo hi gr n i cur wr
def SamePost (w : World) (e : Ending) (w' : World) : Prop := e = .returned (.bool true) ∧ Below w.heap.size w w'
set_option maxHeartbeats 8000000 in
set_option maxRecDepth 100000 in
theorem same_law {K : Nat} {w0 w : World} {M : FsMem} {S : FsSt} {MR : RMem} {R : RSt} (h : Pair K w0 w M S MR R) (hK : K ≤ 1048576) :
    Calls Tryz.prog 12 #[.pointer (some ⟨M.fb, 0, none⟩), .pointer (some ⟨MR.rb, 0, none⟩)] w (SamePost w) := by
  obtain ⟨P, hP⟩ : ∃ P, P = SamePost w := ⟨_, rfl⟩
  rw [← hP]
  have HP := Lib.hid hP
  have hd : ∀ i, (R.nodes.getD i noNd).d.length ≤ 1048576 := fun i => by have := (h.inv.at_ i).2; omega
  obtain ⟨L, hL⟩ : ∃ L, L = R.files := ⟨_, rfl⟩
  obtain ⟨D, hD⟩ : ∃ D, D = R.durable := ⟨_, rfl⟩
  have hf := fun (wx : World) (hx : Pair K w0 wx M S MR R) => hx.side.f.files hK
  have hu := fun (wx : World) (hx : Pair K w0 wx M S MR R) => hx.side.f.durable hK
  have hrf := fun (wx : World) (hx : Pair K w0 wx M S MR R) => rfiles_any wx MR R hx.side.r (h.lim hK).now (h.sim.inRange h.good) hd
  have hru := fun (wx : World) (hx : Pair K w0 wx M S MR R) => rdurable_any wx MR R hx.side.r (h.lim hK).safe (h.sim.safeIn h.good) (fun i => (h.inv.at_ i).1) hd
  have e1 := h.sim.files h.good
  have e2 := h.sim.durable h.good
  rw [← hL] at e1
  rw [← hD] at e2
  simp only [e1, e2, ← hL, ← hD] at hf hu hrf hru
  have hsz : (∀ wx, Pair K w0 wx M S MR R → Calls Tryz.prog 55 #[.pointer (some ⟨M.fb, 0, none⟩)] wx fun e w' => e = .returned (.int .i64 (R.size : Nat)) ∧ w' = wx) := fun wx hx => by
    have := hx.side.f.size_any
    rw [h.sim.size] at this
    exact this
  have hrz := fun (wx : World) (hx : Pair K w0 wx M S MR R) => rsize_any wx MR R hx.side.r (h.sim.inRange h.good) (h.sim.sizeLe h.good hK) (h.lim hK).now
  have hst : (∀ wx, Pair K w0 wx M S MR R → Calls Tryz.prog 57 #[.pointer (some ⟨M.fb, 0, none⟩)] wx fun e w' => e = .returned (.int .i64 (R.done : Nat)) ∧ w' = wx) := fun wx hx => by
    have := hx.side.f.steps_any
    rw [← h.sim.done] at this
    exact this
  have hdn : (∀ wx, Pair K w0 wx M S MR R → Calls Tryz.prog 58 #[.pointer (some ⟨M.fb, 0, none⟩)] wx fun e w' => e = .returned (.bool R.out) ∧ w' = wx) := fun wx hx => by
    have := hx.side.f.down_any
    rw [← h.sim.out] at this
    exact this
  have hqt : (∀ wx, Pair K w0 wx M S MR R → Calls Tryz.prog 59 #[.pointer (some ⟨M.fb, 0, none⟩)] wx fun e w' => e = .returned (.int .i64 (R.room : Nat)) ∧ w' = wx) := fun wx hx => by
    have := quota_any wx M S hx.side.f.up.at_
    rw [← h.sim.room] at this
    exact this
  obtain ⟨fb, hfb⟩ : ∃ fb, fb = M.fb := ⟨_, rfl⟩
  obtain ⟨rb, hrb⟩ : ∃ rb, rb = MR.rb := ⟨_, rfl⟩
  have hcell : ∀ wx, Pair K w0 wx M S MR R → (wx.cell? ⟨rb, 5, none⟩ = some (.int .i64 (R.done : Nat)) ∧ wx.cell? ⟨rb, 7, none⟩ = some (.bool R.out)) ∧ wx.cell? ⟨rb, 0, none⟩ = some (.int .i64 (R.room : Nat)) := fun wx hx => by
    rw [hrb]
    exact ⟨⟨hx.side.r.cell 5 _ rfl, hx.side.r.cell 7 _ rfl⟩, hx.side.r.cell 0 _ rfl⟩
  rw [← hfb] at hf hu hsz hst hdn hqt
  rw [← hrb] at hrf hru hrz
  rw [← hfb, ← hrb]
  have H := Lib.hid h
  have Hf := Lib.hid hf
  have Hu := Lib.hid hu
  have Hrf := Lib.hid hrf
  have Hru := Lib.hid hru
  have Hsz := Lib.hid hsz
  have Hrz := Lib.hid hrz
  have Hst := Lib.hid hst
  have Hdn := Lib.hid hdn
  have Hqt := Lib.hid hqt
  have Hcell := Lib.hid hcell
  clear hP h hd hL hD hf hu hrf hru e1 e2 hsz hrz hst hdn hqt hcell hfb hrb
  go_enter Tryz.func12, Tryz.ntmps12
  go_wp2_with fail
  refine (Hf.out w H.out).mono ?_
  rintro e w1 ⟨A1, c1, rfl, L1, b1⟩
  have HL1 := Lib.hid L1
  have HB1 := Lib.hid b1
  clear L1 b1
  go_wp2_with fail
  refine (Hu.out w1 (H.out.low HB1.out)).mono ?_
  rintro e w2 ⟨A2, c2, rfl, L2, b2⟩
  have HL1 := Lib.hid (HL1.out.below b2)
  have HL2 := Lib.hid L2
  have HB2 := Lib.hid (HB1.out.trans (b2.mono HB1.out.size))
  clear L2 b2
  go_wp2_with fail
  refine (Hrf.out w2 (H.out.low HB2.out)).mono ?_
  rintro e w3 ⟨A3, c3, rfl, F3, b3⟩
  have HL1 := Lib.hid (HL1.out.below b3)
  have HL2 := Lib.hid (HL2.out.below b3)
  have HF3 := Lib.hid F3
  have HB3 := Lib.hid (HB2.out.trans (b3.mono HB2.out.size))
  clear F3 b3
  go_wp2_with fail
  refine (samef_any L L A1 A3 c1 c3 w3 HL1.out.at_ HF3.out).mono ?_
  rintro e w4 ⟨rfl, n4, hw4⟩
  rw [decide_eq_true rfl]
  have b4 : Below w3.heap.size w3 w4 := by rw [hw4]; exact ⟨rfl, rfl, rfl, Nat.le_refl _, fun _ _ => rfl⟩
  have HL1 := Lib.hid (HL1.out.below b4)
  have HL2 := Lib.hid (HL2.out.below b4)
  have HB4 := Lib.hid (HB3.out.trans (b4.mono HB3.out.size))
  clear hw4 b4 HF3
  go_wp2_with fail
  refine (Hru.out w4 (H.out.low HB4.out)).mono ?_
  rintro e w5 ⟨A5, c5, rfl, F5, b5⟩
  have HL1 := Lib.hid (HL1.out.below b5)
  have HL2 := Lib.hid (HL2.out.below b5)
  have HF5 := Lib.hid F5
  have HB5 := Lib.hid (HB4.out.trans (b5.mono HB4.out.size))
  clear F5 b5
  go_wp2_with fail
  refine (samef_any D D A2 A5 c2 c5 w5 HL2.out.at_ HF5.out).mono ?_
  rintro e w6 ⟨rfl, n6, hw6⟩
  rw [decide_eq_true rfl]
  have b6 : Below w5.heap.size w5 w6 := by rw [hw6]; exact ⟨rfl, rfl, rfl, Nat.le_refl _, fun _ _ => rfl⟩
  have HL1 := Lib.hid (HL1.out.below b6)
  have HL2 := Lib.hid (HL2.out.below b6)
  have HB6 := Lib.hid (HB5.out.trans (b6.mono HB5.out.size))
  clear hw6 b6 HF5
  obtain ⟨nL, hnL⟩ : ∃ nL, nL = L.length := ⟨_, rfl⟩
  obtain ⟨nD, hnD⟩ : ∃ nD, nD = D.length := ⟨_, rfl⟩
  have hnl : nL ≤ 9223372036854775807 := by have h5 := HL1.out.at_.le; have h6 := HL1.out.at_.big; unfold maxLen at h6; omega
  have hnd : nD ≤ 9223372036854775807 := by have h5 := HL2.out.at_.le; have h6 := HL2.out.at_.big; unfold maxLen at h6; omega
  obtain ⟨g1, hg1⟩ : ∃ g1, g1 = ovBlk A1 := ⟨_, rfl⟩
  obtain ⟨g2, hg2⟩ : ∃ g2, g2 = ovBlk A2 := ⟨_, rfl⟩
  have HO : Hid (0 < nL → A1 = some ⟨g1, 0, none⟩ ∧ ∃ cur, Ovr w w6 w.heap.size w1.heap.size g1 nL 0 cur w6) := Lib.hid fun hp => by
    rw [hnL] at hp ⊢
    rw [hg1]
    exact HL1.out.ovr HB6.out (Nat.le_refl _) hp
  have HA1 : Hid (0 < nL → A1 = some ⟨g1, 0, none⟩) := Lib.hid fun hp => (HO.out hp).1
  have H00 : Hid (SlRel w w6 w.heap.size w1.heap.size g1 nL (.int .i64 0) w6) := Lib.hid ⟨0, by omega, rfl, HB6.out, Kept.refl _ _, fun hp => (HO.out hp).2⟩
  have HnD := Lib.hid hnD
  have Hg2 := Lib.hid hg2
  rw [← hnL]
  rw [← hnD]
  clear hnL hnD hg1 hg2 HO HL1
  go_wp2_with fail
  go_loopw [8, 9] (fun iv _ wr => SlRel w w6 w.heap.size w1.heap.size g1 nL iv wr) (fun iv _ _ => nL - (intOf iv).toNat)
  case atStart => exact H00.out
  case round =>
    clear H00
    obtain ⟨i, hi, rfl, hB, hR, hov⟩ := hrel
    have hir : (0 : Int) ≤ i := by omega
    by_cases hlt : i < nL
    · have hlI : (i : Int) < nL := by omega
      obtain rfl := HA1.out (by omega)
      obtain ⟨cur, ho⟩ := hov (by omega)
      obtain ⟨g, m, bs, e1, e2, e2', e3, e4, e5⟩ := ho.ent i (Nat.le_refl _) hlt
      have Ho := Lib.hid ho
      have He1 := Lib.hid e1
      have h00 : Hid (SiRel w w6 w.heap.size w1.heap.size g1 nL i m cur (.int .i64 0) wr) := Lib.hid ⟨0, by omega, rfl, ho⟩
      clear hB hR hov ho e1 e2 e2' e4 e5
      go_wp2_with fail
      go_loopw [9] (fun kv wr => SiRel w w6 w.heap.size w1.heap.size g1 nL i m cur kv wr) (fun kv _ => m - (intOf kv).toNat)
      case atStart => exact h00.out
      case round =>
        clear h00 Ho
        obtain ⟨k, hk, rfl, ho⟩ := hrel
        obtain ⟨g', m', bs, e1, e2, e2', e3', e4, e5⟩ := ho.ent i (Nat.le_refl _) hlt
        rw [He1.out] at e1
        cases e1
        have hkr : (0 : Int) ≤ k := by omega
        have c1 : wr.cell? ⟨g1, i * 2 + 1, none⟩ = some (.slice (some ⟨g, 0, none⟩) m m) := ((blk_cells ho.row).1 _).trans He1.out
        have Ho := Lib.hid ho
        by_cases hkl : k < m
        · have hkI : (k : Int) < m := by omega
          have c2 : wr.cell? ⟨g, k, none⟩ = bs[k]? := (blk_cells e4).1 k
          rw [Array.getElem?_eq_getElem (by omega)] at c2
          have c3 : wr.frozen? ⟨g, k, none⟩ = false := (blk_cells e4).2.1 k
          have HN : Hid (SiRel w w6 w.heap.size w1.heap.size g1 nL i m cur (.int .i64 ((k : Int) + 1)) (wr.setCell ⟨g, k, none⟩ (.int .u8 97))) := Lib.hid ⟨k + 1, by omega, by simp, ho.put e2 e2' e4 k _⟩
          clear ho e4
          go_wp2_with fail
          exact ⟨HN.out, by simp only [intOf]; omega⟩
        · have hkI : ¬ (k : Int) < m := by omega
          obtain ⟨i0, hi0, hz0, hz1, hz2⟩ := info_parts infoU8r
          have Hold : Hid (∀ j u, bs.toList[j]? = some u → (wr.alloc (.cells #[.int .u8 97] 5)).cell? ⟨g, j, none⟩ = some u) := Lib.hid fun j u hu => Cells.alloc _ _ _ _ (((blk_cells e4).1 j).trans (by simpa using hu))
          have Hlen : Hid (bs.toList.length = m * 1) := Lib.hid (by simpa using e5)
          clear ho e4 e5
          go_wp2_with (first | (at_builtin; refine wpList_append_grows _ rfl _ _ 29 rfl 5 i0 (.int .u8 0) 1 1 Tryz.underlying29 hi0 hz0 hz1 hz2 rfl (by omega) (some ⟨g, 0, none⟩) m m bs.toList rfl (by simp) Hlen.out (fun b hb j u hu => by cases hb; rw [Addr.add_lit, Nat.zero_add]; exact Hold.out j u hu) ⟨wr.heap.size, 0, none⟩ 1 1 [.int .u8 97] rfl rfl (fun j v hv => World.news_of_block (heap_alloc_new _ _) j v hv) (one_cell _) (by omega) (by unfold maxLen; omega) (by omega) ?_))
          intro v' w' hown hgrow
          have hbw : Below wr.heap.size wr w' := ((Below.refl _ _).alloc (Nat.le_refl _) _).grown hgrow (by simp) (by simp)
          obtain ⟨Av, cv, rfl, _, _, _, _⟩ := own_form hown
          have hr : w'.heap[g1]? = some (.cells cur 44 (0, 0)) := (hbw.block _ (lt_of_heap Ho.out.row)).trans Ho.out.row
          have c1 : w'.cell? ⟨g1, i * 2 + 1, none⟩ = some (.slice (some ⟨g, 0, none⟩) m m) := ((blk_cells hr).1 _).trans He1.out
          have c3 : w'.frozen? ⟨g1, i * 2 + 1, none⟩ = false := (blk_cells hr).2.1 _
          have HN : Hid (SlRel w w6 w.heap.size w1.heap.size g1 nL (.int .i64 ((i : Int) + 1)) (w'.setCell ⟨g1, i * 2 + 1, none⟩ (.slice Av (m + 1) cv))) := Lib.hid ⟨i + 1, by omega, by simp, (Ho.out.next hbw _).below, (Ho.out.next hbw _).rest, fun _ => ⟨_, Ho.out.next hbw _⟩⟩
          clear hown hgrow hbw hr Hold Hlen Ho
          go_wp2_with fail
          exact ⟨HN.out, by simp only [intOf]; omega⟩
    · have hlI : ¬ (i : Int) < nL := by omega
      have HBr := Lib.hid hB
      have HL2r := Lib.hid (HL2.out.rest hR (Nat.le_refl _))
      clear hB hR hov HL2 HB3 HB4 HB5 HB6
      have HO : Hid (0 < nD → A2 = some ⟨g2, 0, none⟩ ∧ ∃ cur, Ovr w wr w1.heap.size w2.heap.size g2 nD 0 cur wr) := Lib.hid fun hp => by
        rw [HnD.out] at hp ⊢
        rw [Hg2.out]
        exact HL2r.out.ovr HBr.out HB1.out.size hp
      have HA2 : Hid (0 < nD → A2 = some ⟨g2, 0, none⟩) := Lib.hid fun hp => (HO.out hp).1
      have H00 : Hid (SlRel w wr w1.heap.size w2.heap.size g2 nD (.int .i64 0) wr) := Lib.hid ⟨0, by omega, rfl, HBr.out, Kept.refl _ _, fun hp => (HO.out hp).2⟩
      clear HO HL2r HBr
      obtain ⟨w7, hw7⟩ : ∃ w7, w7 = wr := ⟨_, rfl⟩
      rw [← hw7] at H00 ⊢
      clear hw7
      go_wp2_with fail
      go_loopw [10, 11] (fun iv _ wr => SlRel w w7 w1.heap.size w2.heap.size g2 nD iv wr) (fun iv _ _ => nD - (intOf iv).toNat)
      case atStart => exact H00.out
      case round =>
        clear H00
        obtain ⟨j, hj, rfl, hB, hR, hov⟩ := hrel
        have hjr : (0 : Int) ≤ j := by omega
        by_cases hlt2 : j < nD
        · have hlJ : (j : Int) < nD := by omega
          obtain rfl := HA2.out (by omega)
          obtain ⟨cur, ho⟩ := hov (by omega)
          obtain ⟨g, m, bs, e1, e2, e2', e3, e4, e5⟩ := ho.ent j (Nat.le_refl _) hlt2
          have He1 := Lib.hid e1
          have h00 : Hid (SiRel w w7 w1.heap.size w2.heap.size g2 nD j m cur (.int .i64 0) wr) := Lib.hid ⟨0, by omega, rfl, ho⟩
          clear hB hR hov ho e1 e2 e2' e4 e5
          go_wp2_with fail
          go_loopw [11] (fun kv wr => SiRel w w7 w1.heap.size w2.heap.size g2 nD j m cur kv wr) (fun kv _ => m - (intOf kv).toNat)
          case atStart => exact h00.out
          case round =>
            clear h00
            obtain ⟨k, hk, rfl, ho⟩ := hrel
            obtain ⟨g', m', bs, e1, e2, e2', e3', e4, e5⟩ := ho.ent j (Nat.le_refl _) hlt2
            rw [He1.out] at e1
            cases e1
            have hkr : (0 : Int) ≤ k := by omega
            have c1 : wr.cell? ⟨g2, j * 2 + 1, none⟩ = some (.slice (some ⟨g, 0, none⟩) m m) := ((blk_cells ho.row).1 _).trans He1.out
            by_cases hkl : k < m
            · have hkI : (k : Int) < m := by omega
              have c2 : wr.cell? ⟨g, k, none⟩ = bs[k]? := (blk_cells e4).1 k
              rw [Array.getElem?_eq_getElem (by omega)] at c2
              have c3 : wr.frozen? ⟨g, k, none⟩ = false := (blk_cells e4).2.1 k
              have HN : Hid (SiRel w w7 w1.heap.size w2.heap.size g2 nD j m cur (.int .i64 ((k : Int) + 1)) (wr.setCell ⟨g, k, none⟩ (.int .u8 96))) := Lib.hid ⟨k + 1, by omega, by simp, ho.put e2 e2' e4 k _⟩
              clear ho e4
              go_wp2_with fail
              exact ⟨HN.out, by simp only [intOf]; omega⟩
            · have hkI : ¬ (k : Int) < m := by omega
              have HN : Hid (SlRel w w7 w1.heap.size w2.heap.size g2 nD (.int .i64 ((j : Int) + 1)) wr) := Lib.hid ⟨j + 1, by omega, by simp, ho.below, ho.rest, fun _ => ⟨_, ho.skip⟩⟩
              clear ho e4 e5
              go_wp2_with fail
              exact ⟨HN.out, by simp only [intOf]; omega⟩
        · have hlJ : ¬ (j : Int) < nD := by omega
          have HB8 := Lib.hid hB
          have H8 := Lib.hid (H.out.low hB)
          clear hB hR hov HB1 HB2 H HnD Hg2 HA1 HA2
          go_wp2_with fail
          obtain ⟨wd, hwd⟩ : ∃ wd, wd = wr.drew := ⟨_, rfl⟩
          have hbd : Below wr.heap.size wr wd := by rw [hwd]; exact ⟨rfl, rfl, rfl, Nat.le_refl _, fun _ _ => rfl⟩
          have H9 := Lib.hid (H8.out.low hbd)
          have HB9 := Lib.hid (HB8.out.trans (hbd.mono HB8.out.size))
          have q := Hcell.out wd H9.out
          have q' : (wr.drew.cell? ⟨rb, 5, none⟩ = some (.int .i64 (R.done : Nat)) ∧ wr.drew.cell? ⟨rb, 7, none⟩ = some (.bool R.out)) ∧ wr.drew.cell? ⟨rb, 0, none⟩ = some (.int .i64 (R.room : Nat)) := by rw [← hwd]; exact q
          have Hq' := Lib.hid q'
          clear hbd H8 HB8 q'
          with_reducible refine g_mixy [(0, 0), (1, 0), (2, 0), (4, 0), (3, 2), (5, 2), (6, 2), (7, 0), (8, 0), (9, 0), (11, 0), (10, 2), (12, 2), (13, 0), (14, 0), (15, 0), (16, 0), (18, 0), (19, 0), (20, 0), (21, 0), (17, 2), (22, 0), (23, 0), (24, 0), (25, 0), (27, 0), (28, 0), (29, 0), (30, 0), (26, 2), (31, 0), (32, 0), (33, 0), (34, 0), (36, 0), (37, 0), (38, 0), (39, 0), (35, 2), (40, 0), (41, 0), (42, 0)] (fun w' => (w'.cell? ⟨rb, 5, none⟩ = some (.int .i64 (R.done : Nat)) ∧ w'.cell? ⟨rb, 7, none⟩ = some (.bool R.out)) ∧ w'.cell? ⟨rb, 0, none⟩ = some (.int .i64 (R.room : Nat))) (by kernel_rfl) (by kernel_rfl) ?_ ?_
          · exact Hq'.out
          intro OPS HDD
          have HD1 : (OPS[1]?).bind (·.dst) = some 84 := HDD 1
          have HD8 : (OPS[8]?).bind (·.dst) = some 91 := HDD 8
          have HD15 : (OPS[15]?).bind (·.dst) = some 98 := HDD 15
          have HD24 : (OPS[24]?).bind (·.dst) = some 107 := HDD 24
          have HD33 : (OPS[33]?).bind (·.dst) = some 116 := HDD 33
          clear HDD Hq'
          simp only [mixX, nthO, consX]
          rw [← hwd]
          clear hwd
          have Q := Lib.hid q
          clear q
          iterate 2 ((with_reducible refine x_val (v := ?_) ?_ ?_ ?_); rotate_left; (rintro _ _; go_simp; first | done | rfl | (constructor <;> rfl)); exact Q.out)
          have HD := HD1
          iterate 2 ((with_reducible refine x_valg (v := ?_) HD ?_ ?_ ?_ ?_); rotate_left; go_simp; (rintro _ _; go_simp; first | done | rfl | (constructor <;> rfl)); exact Q.out)
          with_reducible refine x_one ?_
          refine l_onceg HD1 (by go_simp) ?_
          refine l_call ?_ ((Hf.out wd H9.out).mono ?_)
          · go_simp
          rintro e w10 ⟨A10, c10, rfl, L10, b10⟩
          refine ⟨_, rfl, ?_⟩
          have H10 := Lib.hid (H9.out.low b10)
          have HB10 := Lib.hid (HB9.out.trans (b10.mono HB9.out.size))
          have Q := Lib.hid (Hcell.out w10 H10.out)
          have HL10 := Lib.hid L10
          clear b10 L10 H9 HB9
          refine x_keep Q.out ?_
          with_reducible refine x_one ?_
          refine l_onceg HD1 (by go_simp) ?_
          refine l_call ?_ ((Hrf.out w10 H10.out).mono ?_)
          · go_simp
          rintro e w11 ⟨A11, c11, rfl, F11, b11⟩
          refine ⟨_, rfl, ?_⟩
          have H11 := Lib.hid (H10.out.low b11)
          have HB11 := Lib.hid (HB10.out.trans (b11.mono HB10.out.size))
          have Q := Lib.hid (Hcell.out w11 H11.out)
          have HL11 := Lib.hid (HL10.out.below b11)
          have HF11 := Lib.hid F11
          clear b11 F11 H10 HB10 HL10
          refine x_keep Q.out ?_
          with_reducible refine x_one ?_
          refine l_onceg HD1 (by go_simp) ?_
          refine l_call ?_ ((samef_any L L A10 A11 c10 c11 w11 HL11.out.at_ HF11.out).mono ?_)
          · go_simp
          rintro e w12 ⟨rfl, n12, hw12⟩
          rw [decide_eq_true rfl]
          refine ⟨_, rfl, ?_⟩
          have b12 : Below w11.heap.size w11 w12 := by rw [hw12]; exact ⟨rfl, rfl, rfl, Nat.le_refl _, fun _ _ => rfl⟩
          have H12 := Lib.hid (H11.out.low b12)
          have HB12 := Lib.hid (HB11.out.trans (b12.mono HB11.out.size))
          have Q := Lib.hid (Hcell.out w12 H12.out)
          clear hw12 b12 H11 HB11 HL11 HF11
          refine x_keep Q.out ?_
          iterate 2 ((with_reducible refine x_val (v := ?_) ?_ ?_ ?_); rotate_left; (rintro _ _; go_simp; first | done | rfl | (constructor <;> rfl)); exact Q.out)
          clear HD
          have HD := HD8
          iterate 2 ((with_reducible refine x_valg (v := ?_) HD ?_ ?_ ?_ ?_); rotate_left; go_simp; (rintro _ _; go_simp; first | done | rfl | (constructor <;> rfl)); exact Q.out)
          with_reducible refine x_one ?_
          refine l_onceg HD8 (by go_simp) ?_
          refine l_call ?_ ((Hsz.out w12 H12.out).mono ?_)
          · go_simp
          rintro e w13 ⟨rfl, rfl⟩
          refine ⟨_, rfl, ?_⟩
          refine x_keep Q.out ?_
          with_reducible refine x_one ?_
          refine l_onceg HD8 (by go_simp) ?_
          refine l_call ?_ ((Hrz.out w13 H12.out).mono ?_)
          · go_simp
          rintro e w14 ⟨rfl, n14, hw14⟩
          refine ⟨_, rfl, ?_⟩
          have b14 : Below w13.heap.size w13 w14 := by rw [hw14]; exact ⟨rfl, rfl, rfl, Nat.le_refl _, fun _ _ => rfl⟩
          have H14 := Lib.hid (H12.out.low b14)
          have HB14 := Lib.hid (HB12.out.trans (b14.mono HB12.out.size))
          have Q := Lib.hid (Hcell.out w14 H14.out)
          clear hw14 b14 H12 HB12
          refine x_keep Q.out ?_
          iterate 1 ((with_reducible refine x_valg (v := ?_) HD ?_ ?_ ?_ ?_); rotate_left; go_simp; (rintro _ _; go_simp; first | done | rfl | (constructor <;> rfl)); exact Q.out)
          iterate 2 ((with_reducible refine x_val (v := ?_) ?_ ?_ ?_); rotate_left; (rintro _ _; go_simp; first | done | rfl | (constructor <;> rfl)); exact Q.out)
          clear HD
          have HD := HD15
          iterate 4 ((with_reducible refine x_valg (v := ?_) HD ?_ ?_ ?_ ?_); rotate_left; go_simp; (rintro _ ⟨⟨z1, z2⟩, z3⟩; go_simp; first | done | rfl | (constructor <;> rfl)); exact Q.out)
          iterate 1 ((with_reducible refine x_valg (v := ?_) HD ?_ ?_ ?_ ?_); rotate_left; go_simp; (rintro _ ⟨⟨z1, z2⟩, z3⟩; go_simp; first | done | rfl | (constructor <;> rfl)); exact Q.out)
          with_reducible refine x_one ?_
          refine l_onceg HD15 (by go_simp) ?_
          refine l_call ?_ ((Hst.out w14 H14.out).mono ?_)
          · go_simp
          rintro e w15 ⟨rfl, rfl⟩
          refine ⟨_, rfl, ?_⟩
          refine x_keep Q.out ?_
          iterate 1 ((with_reducible refine x_valg (v := ?_) HD ?_ ?_ ?_ ?_); rotate_left; go_simp; (rintro _ _; go_simp; first | done | rfl | (constructor <;> rfl)); exact Q.out)
          iterate 2 ((with_reducible refine x_val (v := ?_) ?_ ?_ ?_); rotate_left; (rintro _ _; go_simp; first | done | rfl | (constructor <;> rfl)); exact Q.out)
          clear HD
          have HD := HD24
          iterate 5 ((with_reducible refine x_valg (v := ?_) HD ?_ ?_ ?_ ?_); rotate_left; go_simp; (rintro _ ⟨⟨z1, z2⟩, z3⟩; go_simp; first | done | rfl | (constructor <;> rfl)); exact Q.out)
          with_reducible refine x_one ?_
          refine l_onceg HD24 (by go_simp) ?_
          refine l_call ?_ ((Hdn.out w15 H14.out).mono ?_)
          · go_simp
          rintro e w16 ⟨rfl, rfl⟩
          refine ⟨_, rfl, ?_⟩
          refine x_keep Q.out ?_
          iterate 1 ((with_reducible refine x_valg (v := ?_) HD ?_ ?_ ?_ ?_); rotate_left; go_simp; (rintro _ _; go_simp; first | done | rfl | (constructor <;> rfl)); exact Q.out)
          iterate 2 ((with_reducible refine x_val (v := ?_) ?_ ?_ ?_); rotate_left; (rintro _ _; go_simp; first | done | rfl | (constructor <;> rfl)); exact Q.out)
          clear HD
          have HD := HD33
          iterate 5 ((with_reducible refine x_valg (v := ?_) HD ?_ ?_ ?_ ?_); rotate_left; go_simp; (rintro _ ⟨⟨z1, z2⟩, z3⟩; go_simp; first | done | rfl | (constructor <;> rfl)); exact Q.out)
          with_reducible refine x_one ?_
          refine l_onceg HD33 (by go_simp) ?_
          refine l_call ?_ ((Hqt.out w16 H14.out).mono ?_)
          · go_simp
          rintro e w17 ⟨rfl, rfl⟩
          refine ⟨_, rfl, ?_⟩
          refine x_keep Q.out ?_
          iterate 1 ((with_reducible refine x_valg (v := ?_) HD ?_ ?_ ?_ ?_); rotate_left; go_simp; (rintro _ _; go_simp; first | done | rfl | (constructor <;> rfl)); exact Q.out)
          iterate 2 ((with_reducible refine x_val (v := ?_) ?_ ?_ ?_); rotate_left; (rintro _ _; go_simp; first | done | rfl | (constructor <;> rfl)); exact Q.out)
          with_reducible refine x_end ?_
          simp only [Act.put, List.setIfInBounds_toArray, List.set_cons_zero, List.set_cons_succ]
          have Hend : Hid (P (.returned (.bool true)) w17) := Lib.hid (by
            rw [HP.out]
            exact ⟨rfl, HB14.out⟩)
          go_wp2_with fail
          exact Hend.out
end Go.Proofs.YtaolddgnannojaaGreatDoor
