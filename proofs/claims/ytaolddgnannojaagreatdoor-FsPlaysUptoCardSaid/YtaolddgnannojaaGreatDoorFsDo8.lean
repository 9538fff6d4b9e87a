/-
  Does: Read, Has, List, Valid and Dir of both.
-/
import Derived.Test.YtaolddgnannojaaGreatDoorG39
namespace Go.Proofs.YtaolddgnannojaaGreatDoor
open Go.RowKit Go.Maps

attribute [local go_sem] lt1 lt2 lt3 lt4 lt5 lt6

/-- what both read -/
def BothRead (w : World) (d : List UInt8) (n : Nat) (e : Ending) (w' : World) : Prop :=
  ∃ A c g, e = .returned (.tuple #[.slice A d.length c, .int .i64 (n : Nat)]) ∧ Below w.heap.size w w' ∧ Bs w' A c d ∧ w.heap.size ≤ g ∧ (0 < d.length → A = some ⟨g, 0, none⟩ ∧ ∃ cs, w'.heap[g]? = some (.cells cs 5 (0, 0)) ∧ d.length ≤ cs.size)
theorem Pair.read {K : Nat} {w0 w : World} {M : FsMem} {S : FsSt} {MR : RMem} {R : RSt} (h : Pair K w0 w M S MR R) (hK : K ≤ 1048576) (s : ByteArray) (hs : s.size ≤ 1048576) :
    ∃ n d, ((n = 0 ∧ S.has s = true) ∨ (n = 2 ∧ S.has s = false)) ∧ d.length ≤ 1048576 ∧ Calls Tryz.prog 42 #[.pointer (some ⟨M.fb, 0, none⟩), .string s] w (BothRead w d n) ∧
      (∀ w1, Pair K w0 w1 M S MR R → Calls Tryz.prog 43 #[.pointer (some ⟨MR.rb, 0, none⟩), .string s] w1 fun e w' => ∃ A c, e = .returned (.tuple #[.slice A d.length c, .int .i64 (n : Nat)]) ∧ Below w1.heap.size w1 w' ∧ Bs w' A c d) := by
  have hL := read_any w M S K h.side.f.up.at_ h.good.inv hK s hs
  have hR := fun (w1 : World) (h1 : Pair K w0 w1 M S MR R) => rread_any w1 MR R h1.side.r (h.sim.inRange h.good) (fun c hc => Nat.le_trans (h.inv.node c hc).2 hK) s
  rcases h.sim.at_ h.good s with ⟨h1, h2, _⟩ | ⟨i, h1, _, h2, h3, h4⟩
  · refine ⟨2, [], .inr ⟨rfl, by unfold FsSt.has; rw [h2]; rfl⟩, by simp, hL.mono fun e w' hp => ?_, fun w1 hw1 => (hR w1 hw1).mono fun e w' hp => ?_⟩
    · unfold ReadPost at hp
      rw [h2] at hp
      obtain ⟨hb, rfl⟩ := hp
      exact ⟨none, 0, w.heap.size, rfl, hb, Bs.none_ _, Nat.le_refl _, fun hh => absurd hh (by simp)⟩
    · unfold RReadPost at hp
      rw [h1] at hp
      obtain ⟨hb, rfl⟩ := hp
      exact ⟨none, 0, rfl, hb, Bs.none_ _⟩
  · have hd : (S.fileD i).2.d.length ≤ K := h.good.inv.lenAt i
    have hnd : (R.nodes.getD (nget S.names s - 1) noNd).d = (S.fileD i).2.d := by rw [List.getD_eq_getElem?_getD, h3]; rfl
    obtain ⟨d, hdd⟩ : ∃ d, d = (S.fileD i).2.d := ⟨_, rfl⟩
    rw [← hdd] at hd hnd
    refine ⟨0, d, .inl ⟨rfl, by unfold FsSt.has; rw [h1]; rfl⟩, by omega, hL.mono fun e w' hp => ?_, fun w1 hw1 => (hR w1 hw1).mono fun e w' hp => ?_⟩
    · unfold ReadPost at hp
      rw [h1] at hp
      obtain ⟨hb, g, rfl, hg, hgs⟩ := hp
      rw [← hdd] at hg ⊢
      exact ⟨_, _, g, rfl, hb, Bs.of_block hg (Nat.le_refl _) (by unfold maxLen; omega), hgs, fun _ => ⟨rfl, _, hg, by simp [u8s]⟩⟩
    · unfold RReadPost at hp
      rw [h2] at hp
      obtain ⟨hb, A, c, rfl, hrow⟩ := hp
      rw [hnd] at hrow ⊢
      obtain ⟨A2, c2, e, hbs⟩ := own_bs hrow
      simp only [Value.slice.injEq, true_and] at e
      obtain ⟨rfl, rfl⟩ := e
      exact ⟨_, _, rfl, hb, hbs⟩
def B98Rel (w : World) (g n : Nat) (iv : Value) (wr : World) : Prop := ∃ k : Nat, k ≤ n ∧ iv = .int .i64 (k : Nat) ∧ Below w.heap.size w wr ∧ (0 < n → ∃ cs : Array Value, wr.heap[g]? = some (.cells cs 5 (0, 0)) ∧ n ≤ cs.size)
set_option maxHeartbeats 8000000 in
set_option maxRecDepth 100000 in
theorem does_read {K : Nat} {w0 w : World} {M : FsMem} {S : FsSt} {MR : RMem} {R : RSt} (h : Pair K w0 w M S MR R) (o : OpC) (ho : OpOk o) (hk : o.kind < 0 ∨ 7 < o.kind) (hK : K ≤ 1048576) (A : Option Addr) (c : Nat) :
    Calls Tryz.prog 11 #[.pointer (some ⟨M.fb, 0, none⟩), .pointer (some ⟨MR.rb, 0, none⟩), .agg (opCells o A c)] w (DoesPost K w0 M.fb MR.rb) := by
  obtain ⟨P, hP⟩ : ∃ P, P = DoesPost K w0 M.fb MR.rb := ⟨_, rfl⟩
  rw [← hP]
  have HP := Lib.hid hP
  obtain ⟨kind, n, m, name, to, b⟩ := o
  have hnm := ho.name
  simp only at hk hnm
  have k0 : (kind == 0) = false := by simp only [beq_eq_false_iff_ne]; omega
  have k1 : (kind == 1) = false := by simp only [beq_eq_false_iff_ne]; omega
  have k2 : (kind == 2) = false := by simp only [beq_eq_false_iff_ne]; omega
  have k3 : (kind == 3) = false := by simp only [beq_eq_false_iff_ne]; omega
  have k4 : (kind == 4) = false := by simp only [beq_eq_false_iff_ne]; omega
  have k5 : (kind == 5) = false := by simp only [beq_eq_false_iff_ne]; omega
  have k6 : (kind == 6) = false := by simp only [beq_eq_false_iff_ne]; omega
  have k7 : (kind == 7) = false := by simp only [beq_eq_false_iff_ne]; omega
  have hb0 : Below w.heap.size w (w.alloc (.cells (opCells ⟨kind, n, m, name, to, b⟩ A c) 31)) := (Below.refl _ _).alloc (Nat.le_refl _) _
  have h0 := h.low hb0
  have hnew := heap_alloc_new w (.cells (opCells ⟨kind, n, m, name, to, b⟩ A c) 31)
  unfold opCells at h0 hnew ⊢
  simp only at h0 hnew ⊢
  obtain ⟨er, d, her, hdl, hc1, hc2⟩ := h0.read hK name hnm
  obtain ⟨fb, hfb⟩ : ∃ fb, fb = M.fb := ⟨_, rfl⟩
  obtain ⟨rb, hrb⟩ : ∃ rb, rb = MR.rb := ⟨_, rfl⟩
  rw [← hfb] at hc1
  rw [← hrb] at hc2
  rw [← hfb, ← hrb] at HP ⊢
  have H0 := Lib.hid h0
  have Hfb := Lib.hid hfb
  have Hrb := Lib.hid hrb
  have Hnew := Lib.hid hnew
  have Hc1 := Lib.hid hc1
  have Hc2 := Lib.hid hc2
  have Her := Lib.hid her
  clear h h0 hb0 hP hfb hrb hk ho hnew hc1 hc2 her
  go_enter Tryz.func11, Tryz.ntmps11
  go_wp2_with fail
  generalize w.alloc (.cells #[.int .i64 kind, .int .i64 n, .int .i64 m, .string name, .string to, .slice A b.length c] 31) = w1 at *
  obtain ⟨ob, hob⟩ : ∃ ob, ob = w.heap.size := ⟨_, rfl⟩
  rw [← hob] at Hnew ⊢
  clear hob
  refine Hc1.out.mono ?_
  rintro e w2 ⟨A2, c2, g, rfl, hb2, hbs2, hgs, hg2⟩
  have hn2 := (hb2.block _ (lt_of_heap Hnew.out)).trans Hnew.out
  have q3 : w2.cell? ⟨ob, 3, none⟩ = some (.string name) := (blk_cells hn2).1 3
  have Hc3 := Lib.hid (Hc2.out w2 (H0.out.low hb2))
  have Hb2 := Lib.hid hb2
  have Hbs2 := Lib.hid hbs2
  have Hg2 := Lib.hid (And.intro hgs hg2)
  clear hb2 hbs2 hgs hg2 Hc1 Hc2 hn2
  go_wp2_with fail
  refine Hc3.out.mono ?_
  rintro e w3 ⟨A3, c3, rfl, hb3, hbs3⟩
  have hB3 := Hb2.out.trans (hb3.mono Hb2.out.size)
  have Hbs2' := Lib.hid (Hbs2.out.keep (Cells.of_below hb3))
  have Hbs3 := Lib.hid hbs3
  have HB3 := Lib.hid hB3
  have Hg3 : Hid (w1.heap.size ≤ g ∧ (0 < d.length → A2 = some ⟨g, 0, none⟩ ∧ ∃ cs : Array Value, w3.heap[g]? = some (.cells cs 5 (0, 0)) ∧ d.length ≤ cs.size)) := Lib.hid ⟨Hg2.out.1, fun hp => by
    obtain ⟨h1, cs, h2, h3⟩ := Hg2.out.2 hp
    exact ⟨h1, cs, (hb3.block _ (lt_of_heap h2)).trans h2, h3⟩⟩
  clear hb3 hbs3 hB3 Hbs2 Hg2 Hb2 Hc3
  go_wp2_with fail
  refine (same_any d d A2 A3 c2 c3 w3 Hbs2'.out Hbs3.out).mono ?_
  rintro e w4 ⟨rfl, n4, hw4⟩
  rw [show (d == d) = true from BEq.rfl]
  have H04 : Hid (B98Rel w1 g d.length (.int .i64 0) w4) := Lib.hid ⟨0, by omega, rfl, by rw [hw4]; exact ⟨HB3.out.os, HB3.out.tape, HB3.out.output, HB3.out.size, HB3.out.block⟩, fun hp => by rw [hw4]; exact (Hg3.out.2 hp).2⟩
  have HA : Hid (w1.heap.size ≤ g ∧ (0 < d.length → A2 = some ⟨g, 0, none⟩)) := Lib.hid ⟨Hg3.out.1, fun hp => (Hg3.out.2 hp).1⟩
  obtain ⟨dl, hdlE⟩ : ∃ dl, dl = d.length := ⟨_, rfl⟩
  rw [← hdlE] at H04 HA hdl ⊢
  clear hw4 HB3 Hg3 Hbs2' Hbs3 hdlE
  go_wp2_with fail
  go_loopw [17] (fun iv wr => B98Rel w1 g dl iv wr) (fun iv _ => dl - (intOf iv).toNat)
  case atStart => exact H04.out
  case round =>
    clear H04
    obtain ⟨k, hkn, rfl, hB, hg⟩ := hrel
    by_cases hlt : k < dl
    · have hlI : (k : Int) < dl := by omega
      obtain ⟨cs, hg, hcs⟩ := hg (by omega)
      obtain rfl := HA.out.2 (by omega)
      obtain ⟨u, c9⟩ : ∃ u, wr.cell? ⟨g, k, none⟩ = some u := ⟨_, ((blk_cells hg).1 k).trans (Array.getElem?_eq_getElem (by omega))⟩
      have f1 := (blk_cells hg).2.1 k
      have Hnx : Hid (B98Rel w1 g dl (.int .i64 ((k : Int) + 1)) (wr.setCell ⟨g, k, none⟩ (.int .u8 98))) := Lib.hid ⟨k + 1, by omega, by simp, hB.setCell HA.out.1 _, fun _ => ⟨_, heap_setCell_at hg k _, by simpa using hcs⟩⟩
      clear hg hcs hB
      go_wp2_with fail
      go_roundw
      case rel => exact Hnx.out
      case measure => simp [intOf]; omega
    · have hlI : ¬ (k : Int) < dl := by omega
      have hn4 := (hB.block _ (lt_of_heap Hnew.out)).trans Hnew.out
      have q3 : wr.cell? ⟨ob, 3, none⟩ = some (.string name) := (blk_cells hn4).1 3
      have H4 := Lib.hid (H0.out.low hB)
      have Hn4 := Lib.hid hn4
      clear hg hB hn4 H0 Hnew
      go_wp2_with fail
      obtain ⟨wd, hwd⟩ : ∃ wd, wd = wr.drew := ⟨_, rfl⟩
      with_reducible refine g_mixx [(0, 0), (1, 0), (2, 0), (4, 0), (5, 0), (6, 0), (3, 2), (7, 2), (8, 2), (9, 0)] (fun w' => w'.cell? ⟨ob, 3, none⟩ = some (.string name)) 0 _ rfl (by kernel_rfl) (by kernel_rfl) ?_ ?_
      · exact q3
      intro OPS HD
      simp only [mixX, nthO, consX]
      rw [← hwd]
      have q3 : wd.cell? ⟨ob, 3, none⟩ = some (.string name) := by rw [hwd]; exact q3
      have hbd : Below wr.heap.size wr wd := by rw [hwd]; exact ⟨rfl, rfl, rfl, Nat.le_refl _, fun _ _ => rfl⟩
      have H5 := Lib.hid (H4.out.low hbd)
      clear hwd hbd H4 Hn4
      iterate 6 ((with_reducible refine x_val (v := ?_) ?_ ?_ ?_); rotate_left; (rintro _ h1; go_simp; first | done | rfl | (constructor <;> rfl)); exact q3)
      with_reducible refine x_one ?_
      have hl1 := list_any wd M S K H5.out.side.f.up.at_ H5.out.good.inv hK name hnm
      rw [← Hfb.out] at hl1
      refine l_call ?_ (hl1.mono ?_)
      · go_simp
      rintro e w6 ⟨v6, rfl, hrow6, hb6⟩
      obtain ⟨A6, c6, hv6, hsl6⟩ := own_slk hrow6
      subst hv6
      refine ⟨_, rfl, ?_⟩
      have q3 := (Cells.of_below hb6) _ _ q3
      have H6 := Lib.hid (H5.out.low hb6)
      have hsim := H6.out.sim.list H6.out.good name
      rw [hsim] at hsl6 ⊢
      have Hsl6 := Lib.hid hsl6
      clear hrow6 hb6 H5 hl1 hsl6 hsim
      refine x_keep q3 ?_
      with_reducible refine x_one ?_
      have hl2 := rlist_any w6 MR R H6.out.side.r (H6.out.lim hK).now name hnm
      rw [← Hrb.out] at hl2
      refine l_call ?_ (hl2.mono ?_)
      · go_simp
      rintro e w7 ⟨v7, rfl, hrow7, hb7⟩
      obtain ⟨A7, c7, hv7, hsl7⟩ := own_slk hrow7
      subst hv7
      refine ⟨_, rfl, ?_⟩
      have q3 := (Cells.of_below hb7) _ _ q3
      have H7 := Lib.hid (H6.out.low hb7)
      have Hsl6 := Lib.hid (Hsl6.out.keep (Cells.of_below hb7))
      have Hsl7 := Lib.hid hsl7
      clear hrow7 hb7 H6 hl2 hsl7
      refine x_keep q3 ?_
      with_reducible refine x_one ?_
      refine l_call ?_ ((texts_any (R.list name) (R.list name) A6 A7 c6 c7 w7 Hsl6.out Hsl7.out).mono ?_)
      · go_simp
      rintro e w8 ⟨rfl, n8, hw8⟩
      rw [decide_eq_true rfl]
      refine ⟨_, rfl, ?_⟩
      have q3 : w8.cell? ⟨ob, 3, none⟩ = some (.string name) := by rw [hw8]; exact q3
      have H8 : Hid (Pair K w0 w8 M S MR R) := Lib.hid (H7.out.low (by rw [hw8]; exact ⟨rfl, rfl, rfl, Nat.le_refl _, fun _ _ => rfl⟩))
      clear hw8 H7 Hsl6 Hsl7
      refine x_keep q3 ?_
      iterate 1 ((with_reducible refine x_val (v := ?_) ?_ ?_ ?_); rotate_left; (rintro _ h1; go_simp; first | done | rfl | (constructor <;> rfl)); exact q3)
      with_reducible refine x_end ?_
      simp only [Act.put, List.setIfInBounds_toArray, List.set_cons_zero, List.set_cons_succ]
      go_wp2_with fail
      obtain ⟨wd2, hwd2⟩ : ∃ wd2, wd2 = w8.drew := ⟨_, rfl⟩
      have H9 : Hid (Pair K w0 wd2 M S MR R) := Lib.hid (by rw [hwd2]; exact H8.out.low ⟨rfl, rfl, rfl, Nat.le_refl _, fun _ _ => rfl⟩)
      have q3 : w8.drew.cell? ⟨ob, 3, none⟩ = some (.string name) := q3
      have hdd := str_eq (dirOf name) (dirOf name)
      rw [decide_eq_true rfl] at hdd
      have hhas : ∃ hv : Bool, S.has name = hv ∧ ((er : Int) == 0) = hv := by
        rcases Her.out with ⟨h1, h2⟩ | ⟨h1, h2⟩
        · exact ⟨true, h2, by rw [h1]; rfl⟩
        · exact ⟨false, h2, by rw [h1]; rfl⟩
      obtain ⟨hv, hv1, hv2⟩ := hhas
      have Hv1 := Lib.hid hv1
      have hnE : (er : Int) = er := rfl
      obtain ⟨vv, hvv⟩ : ∃ vv, vv = validF (toL name) := ⟨_, rfl⟩
      have Hvv := Lib.hid hvv
      clear H8 hv1 hvv hnE
      with_reducible refine g_mixy [(0, 0), (1, 0), (2, 0), (4, 0), (3, 2), (5, 0), (6, 0), (7, 0), (8, 0), (9, 0), (10, 0), (12, 0), (13, 0), (11, 2), (14, 0), (15, 0), (16, 0), (17, 0), (18, 0), (19, 0), (20, 0), (21, 0), (23, 0), (24, 0), (22, 2), (25, 2), (26, 0), (27, 0), (28, 0), (29, 0), (30, 0), (32, 0), (33, 0), (31, 2), (34, 2), (35, 0), (36, 0), (37, 0)] (fun w' => w'.cell? ⟨ob, 3, none⟩ = some (.string name)) (by kernel_rfl) (by kernel_rfl) ?_ ?_
      · exact q3
      intro OPS HDD
      have HD1 : (OPS[1]?).bind (·.dst) = some 186 := HDD 1
      have HD7 : (OPS[7]?).bind (·.dst) = some 192 := HDD 7
      have HD16 : (OPS[16]?).bind (·.dst) = some 201 := HDD 16
      have HD19 : (OPS[19]?).bind (·.dst) = some 204 := HDD 19
      have HD28 : (OPS[28]?).bind (·.dst) = some 213 := HDD 28
      clear HDD
      simp only [mixX, nthO, consX]
      rw [← hwd2] at q3 ⊢
      clear hwd2
      iterate 2 ((with_reducible refine x_val (v := ?_) ?_ ?_ ?_); rotate_left; (rintro _ h1; go_simp; first | done | rfl | (constructor <;> rfl)); exact q3)
      have HD := HD1
      iterate 2 ((with_reducible refine x_valg (v := ?_) HD ?_ ?_ ?_ ?_); rotate_left; go_simp; (rintro _ h1; go_simp; first | done | rfl | (constructor <;> rfl)); exact q3)
      with_reducible refine x_one ?_
      refine l_onceg HD1 (by go_simp) ?_
      refine l_call ?_ ((num_any (er : Int) wd2).mono ?_)
      · go_simp
      rintro e w9 ⟨rfl, rfl⟩
      refine ⟨_, rfl, ?_⟩
      refine x_keep q3 ?_
      iterate 1 ((with_reducible refine x_valg (v := ?_) HD ?_ ?_ ?_ ?_); rotate_left; go_simp; (rintro _ h1; go_simp; first | done | rfl | (constructor <;> rfl)); exact q3)
      iterate 2 ((with_reducible refine x_val (v := ?_) ?_ ?_ ?_); rotate_left; (rintro _ h1; go_simp; first | done | rfl | (constructor <;> rfl)); exact q3)
      clear HD
      have HD := HD7
      iterate 5 ((with_reducible refine x_valg (v := ?_) HD ?_ ?_ ?_ ?_); rotate_left; go_simp; (rintro _ h1; go_simp; first | done | rfl | (constructor <;> rfl)); exact q3)
      with_reducible refine x_one ?_
      refine l_onceg HD7 (by go_simp) ?_
      have hh := has_any wd2 M S H9.out.side.f.up.at_ name (by unfold maxLen; omega) (H9.out.good.inv.name_le hK name)
      rw [← Hfb.out, Hv1.out] at hh
      refine l_call ?_ (hh.mono ?_)
      · go_simp
      rintro e w10 ⟨rfl, n10, hw10⟩
      refine ⟨_, rfl, ?_⟩
      have hb10 : Below wd2.heap.size wd2 w10 := by rw [hw10]; exact ⟨rfl, rfl, rfl, Nat.le_refl _, fun _ _ => rfl⟩
      have q3 := (Cells.of_below hb10) _ _ q3
      have H10 := Lib.hid (H9.out.low hb10)
      clear hw10 hb10 H9 hh
      refine x_keep q3 ?_
      iterate 1 ((with_reducible refine x_valg (v := ?_) HD ?_ ?_ ?_ ?_); rotate_left; go_simp; (rintro _ h1; go_simp; first | done | rfl | (constructor <;> rfl)); exact q3)
      iterate 2 ((with_reducible refine x_val (v := ?_) ?_ ?_ ?_); rotate_left; (rintro _ h1; go_simp; first | done | rfl | (constructor <;> rfl)); exact q3)
      clear HD
      have HD := HD16
      iterate 1 ((with_reducible refine x_valg (v := ?_) HD ?_ ?_ ?_ ?_); rotate_left; go_simp; (rintro _ h1; go_simp; first | done | rfl | (constructor <;> rfl)); exact q3)
      iterate 2 ((with_reducible refine x_val (v := ?_) ?_ ?_ ?_); rotate_left; (rintro _ h1; go_simp; first | done | rfl | (constructor <;> rfl)); exact q3)
      clear HD
      have HD := HD19
      iterate 4 ((with_reducible refine x_valg (v := ?_) HD ?_ ?_ ?_ ?_); rotate_left; go_simp; (rintro _ h1; go_simp; first | done | rfl | (constructor <;> rfl)); exact q3)
      with_reducible refine x_one ?_
      refine l_onceg HD19 (by go_simp) ?_
      refine l_call ?_ ((valid_any w10 name hnm H10.out.side.f.up.ml).mono ?_)
      · go_simp
      rintro e w11 ⟨rfl, hb11⟩
      rw [← Hvv.out]
      refine ⟨_, rfl, ?_⟩
      have q3 := (Cells.of_below hb11) _ _ q3
      have H11 := Lib.hid (H10.out.low hb11)
      clear hb11 H10
      refine x_keep q3 ?_
      with_reducible refine x_one ?_
      refine l_onceg HD19 (by go_simp) ?_
      refine l_call ?_ ((rvalid_any w11 name hnm).mono ?_)
      · go_simp
      rintro e w12 ⟨rfl, hb12⟩
      rw [← Hvv.out]
      refine ⟨_, rfl, ?_⟩
      have q3 := (Cells.of_below hb12) _ _ q3
      have H12 := Lib.hid (H11.out.low hb12)
      clear hb12 H11
      refine x_keep q3 ?_
      iterate 1 ((with_reducible refine x_valg (v := ?_) HD ?_ ?_ ?_ ?_); rotate_left; go_simp; (rintro _ h1; go_simp; first | done | rfl | (constructor <;> rfl)); exact q3)
      iterate 2 ((with_reducible refine x_val (v := ?_) ?_ ?_ ?_); rotate_left; (rintro _ h1; go_simp; first | done | rfl | (constructor <;> rfl)); exact q3)
      clear HD
      have HD := HD28
      iterate 4 ((with_reducible refine x_valg (v := ?_) HD ?_ ?_ ?_ ?_); rotate_left; go_simp; (rintro _ h1; go_simp; first | done | rfl | (constructor <;> rfl)); exact q3)
      with_reducible refine x_one ?_
      refine l_onceg HD28 (by go_simp) ?_
      refine l_call ?_ ((dir_any w12 name hnm).mono ?_)
      · go_simp
      rintro e w13 ⟨rfl, rfl⟩
      refine ⟨_, rfl, ?_⟩
      refine x_keep q3 ?_
      with_reducible refine x_one ?_
      refine l_onceg HD28 (by go_simp) ?_
      refine l_call ?_ ((rdir_any w13 name hnm).mono ?_)
      · go_simp
      rintro e w14 ⟨rfl, rfl⟩
      refine ⟨_, rfl, ?_⟩
      refine x_keep q3 ?_
      iterate 1 ((with_reducible refine x_valg (v := ?_) HD ?_ ?_ ?_ ?_); rotate_left; go_simp; (rintro _ h1; go_simp; first | done | rfl | (constructor <;> rfl)); exact q3)
      iterate 2 ((with_reducible refine x_val (v := ?_) ?_ ?_ ?_); rotate_left; (rintro _ h1; go_simp; first | done | rfl | (constructor <;> rfl)); exact q3)
      with_reducible refine x_end ?_
      simp only [Act.put, List.setIfInBounds_toArray, List.set_cons_zero, List.set_cons_succ]
      have Hend : Hid (P (.returned (.bool true)) w14) := Lib.hid (by
        rw [HP.out]
        exact ⟨rfl, M, S, MR, R, H12.out, Hfb.out.symm, Hrb.out.symm⟩)
      go_wp2_with fail
      exact Hend.out
end Go.Proofs.YtaolddgnannojaaGreatDoor
