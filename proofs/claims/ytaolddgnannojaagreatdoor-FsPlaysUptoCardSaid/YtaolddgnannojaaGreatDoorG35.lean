/-
  The reference: Append.
  The reference: lasts (the first pending changes are durable).
-/
import Derived.Test.YtaolddgnannojaaGreatDoorG33
namespace Go.Proofs.YtaolddgnannojaaGreatDoor
open Go.RowKit Go.Maps

attribute [local go_sem] lt1 lt2 lt3 lt4 lt5 lt6

set_option maxHeartbeats 8000000 in
set_option maxRecDepth 100000 in
theorem rappend_any (w : World) (M : RMem) (R : RSt) (h : RAt w M R) (hl : RLim R) (hin : ∀ p ∈ R.now, p.2 < R.nodes.length) (hz : R.size ≤ 1099511627776) (hrm : R.room ≤ 67108864) (hd : ∀ i, (R.nodes.getD i noNd).d.length ≤ 1048576) (s : ByteArray)
    (b : List UInt8) (A : Option Addr) (c : Nat) (hb : Bs w A c b) (hbo : 0 < b.length → ∀ a, A = some a → a.block ∉ M.own) (hbl : b.length ≤ 1048576) :
    Calls Tryz.prog 32 #[.pointer (some ⟨M.rb, 0, none⟩), .string s, .slice A b.length c] w (ROut w M (R.append s b)) := by
  obtain ⟨P, hP⟩ : ∃ P, P = ROut w M (R.append s b) := ⟨_, rfl⟩
  rw [← hP]
  have HP := Lib.hid hP
  have H := Lib.hid h
  have HL := Lib.hid hl
  have HB := Lib.hid hb
  have HBo := Lib.hid hbo
  have c7 : w.cell? ⟨M.rb, 7, none⟩ = some (.bool R.out) := h.cell 7 _ rfl
  obtain ⟨Aw, cw, hwv, hat⟩ := h.now.rows
  have c2 : w.cell? ⟨M.rb, 2, none⟩ = some (.slice Aw R.now.length cw) := by rw [← hwv]; exact h.cell 2 _ rfl
  have Hat := Lib.hid hat
  have Hin := Lib.hid hin
  have Hd := Lib.hid hd
  clear hP h hl hat hwv hb hin hd hbo
  by_cases ho : R.out = true
  · have Hend : Hid (P (.returned (.int .i64 5)) w) := Lib.hid (by
      rw [HP.out]
      unfold RSt.append
      rw [if_pos ho]
      exact ⟨rfl, M, H.out, RGr.refl _ _⟩)
    rw [ho] at c7
    go_enter Tryz.func32, Tryz.ntmps32
    go_wp2_with fail
    exact Hend.out
  have hof : R.out = false := by simpa using ho
  rw [hof] at c7
  go_enter Tryz.func32, Tryz.ntmps32
  go_wp2_with fail
  refine (at_any w Aw cw R.now s Hat.out).mono ?_
  rintro e w1 ⟨rfl, n1, hw1⟩
  have h1 : RAt w1 M R := by rw [hw1]; exact H.out.drewN n1
  have B1 := Lib.hid (show Below w.heap.size w w1 by rw [hw1]; exact ⟨rfl, rfl, rfl, Nat.le_refl _, fun _ _ => rfl⟩)
  have H1 := Lib.hid h1
  clear hw1 h1 c7 c2 Hat
  cases hr : rat R.now s with
  | none =>
    have Hend : Hid (P (.returned (.int .i64 2)) w1) := Lib.hid (by
      rw [HP.out]
      unfold RSt.append
      rw [if_neg ho, hr]
      exact ⟨rfl, M, H1.out, RGr.of_below B1.out⟩)
    show _
    simp only [atInt]
    go_wp2_with fail
    exact Hend.out
  | some i =>
    have hil := Hin.out _ (rat_mem hr)
    simp only at hil
    have hi0 : ¬ (i : Int) < 0 := by omega
    have c0 : w1.cell? ⟨M.rb, 0, none⟩ = some (.int .i64 (R.room : Nat)) := H1.out.cell 0 _ rfl
    simp only [atInt]
    go_wp2_with fail
    have c0 : w1.drew.cell? ⟨M.rb, 0, none⟩ = some (.int .i64 (R.room : Nat)) := c0
    with_reducible refine g_mixx [(0, 0), (1, 0), (2, 0), (3, 0), (4, 0), (5, 0), (6, 0), (7, 2), (8, 0), (9, 0)] (fun w' => w'.cell? ⟨M.rb, 0, none⟩ = some (.int .i64 (R.room : Nat))) 0 _ rfl (by kernel_rfl) (by kernel_rfl) ?_ ?_
    · exact c0
    intro OPS HD
    simp only [mixX, nthO, consX]
    iterate 7 ((with_reducible refine x_val (v := ?_) ?_ ?_ ?_); rotate_left; (rintro _ h1; go_simp; first | done | rfl | (constructor <;> rfl)); exact c0)
    with_reducible refine x_one ?_
    refine l_call ?_ ((rsize_any w1.drew M R (H1.out.drewN 1) Hin.out hz HL.out.now).mono ?_)
    · go_simp
    rintro e w4 ⟨rfl, n4, hw4⟩
    refine ⟨_, rfl, ?_⟩
    have H4 : Hid (RAt w4 M R) := Lib.hid (by rw [hw4]; exact (H1.out.drewN 1).drewN n4)
    have B4 := Lib.hid (show Below w.heap.size w w4 by rw [hw4]; exact ⟨B1.out.os, B1.out.tape, B1.out.output, B1.out.size, B1.out.block⟩)
    have c0 : w4.cell? ⟨M.rb, 0, none⟩ = some (.int .i64 (R.room : Nat)) := by rw [hw4]; exact c0
    clear hw4 H1 B1
    refine x_keep c0 ?_
    have r1 : IntKind.i64.wrap ((R.room : Int) - R.size) = (R.room : Int) - R.size := by rw [IntKind.wrap_i64]; omega
    by_cases hq : (R.room : Int) - R.size < b.length
    · iterate 2 ((with_reducible refine x_val (v := ?_) ?_ ?_ ?_); rotate_left; (rintro _ h1; go_simp; first | done | rfl | (constructor <;> rfl)); exact c0)
      with_reducible refine x_end ?_
      simp only [Act.put, List.setIfInBounds_toArray, List.set_cons_zero, List.set_cons_succ]
      have Hend : Hid (P (.returned (.int .i64 4)) w4) := Lib.hid (by
        rw [HP.out]
        unfold RSt.append
        rw [if_neg ho, hr]
        simp only
        rw [if_pos hq]
        exact ⟨rfl, M, H4.out, RGr.of_below B4.out⟩)
      go_wp2_with fail
      exact Hend.out
    iterate 2 ((with_reducible refine x_val (v := ?_) ?_ ?_ ?_); rotate_left; (rintro _ h1; go_simp; first | done | rfl | (constructor <;> rfl)); exact c0)
    with_reducible refine x_end ?_
    simp only [Act.put, List.setIfInBounds_toArray, List.set_cons_zero, List.set_cons_succ]
    have Hq : Hid (¬ ((R.room : Int) - R.size < b.length)) := Lib.hid (by omega)
    have Hr := Lib.hid hr
    clear hq r1 c0 hr
    go_wp2_with fail
    refine (fails_any w4 M R H4.out hof HL.out.armed (by have := HL.out.done; omega)).mono ?_
    rintro e w5 ⟨rfl, M5, h5, g5⟩
    by_cases ha : R.armed = 1
    · rw [if_pos ha] at h5
      rw [decide_eq_true ha]
      have Hend : Hid (P (.returned (.int .i64 5)) w5) := Lib.hid (by
        rw [HP.out]
        unfold RSt.append
        rw [if_neg ho, Hr.out]
        simp only
        rw [if_neg (show ¬ ((R.room : Int) - R.size < b.length) by have := Hq.out; omega), if_pos ha]
        exact ⟨rfl, M5, h5, (RGr.of_below B4.out).trans g5⟩)
      clear h5 g5 ha
      go_wp2_with fail
      exact Hend.out
    rw [if_neg ha] at h5
    rw [decide_eq_false ha]
    have Hha := Lib.hid ha
    have hbs5 : Bs w5.drew A c b := ((HB.out.keep (Cells.of_below B4.out)).out g5.fr HBo.out).keep fun _ _ h => h
    have h5d : RAt w5.drew M5 R.did := h5.drewN 1
    have hil2 : i < R.did.nodes.length := hil
    obtain ⟨g, cn, Ad, cd, e1, _, e2, _, hbs⟩ := h5d.node_at hil2
    change M5.nv = .slice (some ⟨g, 0, none⟩) R.nodes.length cn at e1
    have c1 : w5.drew.cell? ⟨M.rb, 1, none⟩ = some (.slice (some ⟨g, 0, none⟩) R.nodes.length cn) := by rw [← g5.rb, ← e1]; exact h5d.cell 1 _ rfl
    obtain ⟨d, hdd⟩ : ∃ d, d = (R.did.nodes.getD i noNd).d := ⟨_, rfl⟩
    rw [← hdd] at e2 hbs
    have hdl : d.length ≤ 1048576 := by rw [hdd]; exact Hd.out i
    obtain ⟨iB, hiB, hzB, hsB, hbB⟩ := info_parts infoU8r
    have H5 := Lib.hid h5d
    have G5 := Lib.hid ((RGr.of_below (M := M) B4.out).trans (g5.trans (show RGr M5 w5 M5 w5.drew from RGr.of_below ⟨rfl, rfl, rfl, Nat.le_refl _, fun _ _ => rfl⟩)))
    have HBs5 := Lib.hid hbs5
    have Hbs := Lib.hid hbs
    have Hdd := Lib.hid hdd
    have He1 := Lib.hid e1
    have hnn := HL.out.nodes
    have hiI : (i : Int) < R.nodes.length := by omega
    clear h5 g5 ha hbs5 h5d hbs hdd e1 H4 B4
    go_wp2_with fail
    with_reducible refine g_mixx [(0, 0), (1, 0), (2, 0), (3, 0), (4, 0), (5, 0), (6, 0), (7, 0), (8, 0), (9, 0), (10, 0), (11, 0), (12, 0), (14, 0), (13, 2), (15, 2), (16, 0), (17, 0), (18, 3)] (fun w' => w'.cell? ⟨M.rb, 1, none⟩ = some (.slice (some ⟨g, 0, none⟩) R.nodes.length cn) ∧ w'.cell? ⟨g, i * 2, none⟩ = some (.slice Ad d.length cd)) 0 _ rfl (by kernel_rfl) (by kernel_rfl) ?_ ?_
    · exact ⟨c1, e2⟩
    intro OPS HD
    obtain ⟨wd, hwd⟩ : ∃ wd, wd = w5.drew := ⟨_, rfl⟩
    rw [← hwd] at c1 e2 H5 G5 HBs5 Hbs ⊢
    clear hwd
    simp only [mixX, nthO, consX]
    iterate 14 ((with_reducible refine x_val (v := ?_) ?_ ?_ ?_); rotate_left; (rintro _ ⟨h1, h2⟩; go_simp; first | done | rfl | (constructor <;> rfl)); exact ⟨c1, e2⟩)
    with_reducible refine x_one ?_
    refine l_call ?_ ((rbytes_any d Ad cd wd hdl Hbs.out).mono ?_)
    · go_simp
    rintro e w6 ⟨dv, rfl, hrow6, hb6⟩
    obtain ⟨Ab, cb, hdv⟩ := own_formT hrow6
    subst hdv
    refine ⟨_, rfl, ?_⟩
    have c1 := (Cells.of_below hb6) _ _ c1
    have e2 := (Cells.of_below hb6) _ _ e2
    have hbs6 := HBs5.out.keep (Cells.of_below hb6)
    refine x_keep ⟨c1, e2⟩ ?_
    with_reducible refine x_one ?_
    refine wpList_append_sl rfl (.tmp 45) (.tmp 46) 29 rfl wd.heap.size 5 iB (.int .u8 0) 1 1 Tryz.underlying29 hiB hzB hsB hbB rfl (by omega) (.slice Ab d.length cb) d.length (u8s d) ?_ hrow6 A b.length c (u8s b) ?_ hbs6 (u8s_one b) (by unfold maxLen; omega) (by omega) hb6.size ?_
    · simp [Act.eval, Act.put]
    · simp [Act.eval, Act.put]
    intro v7 w7 h7 g7
    have hb7 : Below wd.heap.size wd w7 := hb6.grown g7 hb6.size fun k hk => (own_blk hrow6 k hk).1
    have hrow7 : w7.ownsRow wd.heap.size 5 1 v7 (d ++ b).length (u8s (d ++ b)) := by
      have e9 : u8s (d ++ b) = u8s d ++ u8s b := by unfold u8s; rw [List.map_append]
      rw [e9, List.length_append]
      exact h7
    obtain ⟨hr8, g8⟩ := H5.out.setData hb7 hil2 He1.out (data_row hrow7) (fun k hk => (own_blk hrow7 k hk).1)
    obtain ⟨A7, c7, hv7⟩ := own_formT hrow7
    rw [hv7] at hr8 g8 ⊢
    have h7w := H5.out.below hb7
    have hfr : w7.frozen? ⟨g, i * 2, none⟩ = false := by
      have := h7w.nodes
      rw [He1.out] at this
      exact this.frozenAt _
    have c1 := (Cells.of_below hb7) _ _ (show wd.cell? _ = _ by assumption)
    have e2 := (Cells.of_below hb7) _ _ (show wd.cell? ⟨g, i * 2, none⟩ = _ by assumption)
    have Hend : Hid (P (.returned (.int .i64 0)) (w7.setCell ⟨g, i * 2, none⟩ (.slice A7 (d ++ b).length c7))) := Lib.hid (by
      rw [HP.out]
      unfold RSt.append
      rw [if_neg ho, Hr.out]
      simp only
      rw [if_neg (show ¬ ((R.room : Int) - R.size < b.length) by have := Hq.out; omega), if_neg Hha.out]
      refine ⟨rfl, _, ?_, G5.out.trans g8⟩
      have hnode : R.did.node i ⟨d ++ b, (R.did.nodes.getD i noNd).sy⟩ = R.did.node i ⟨(R.nodes.getD i noNd).d ++ b, (R.nodes.getD i noNd).sy⟩ := by rw [Hdd.out]; rfl
      rw [hnode] at hr8
      exact hr8)
    clear h7 g7 hb7 hrow7 hr8 g8 hv7 h7w hbs6 hb6 hrow6
    obtain ⟨nl, hnl⟩ : ∃ nl, nl = (d ++ b).length := ⟨_, rfl⟩
    rw [← hnl] at Hend ⊢
    clear hnl
    refine x_keep ⟨c1, e2⟩ ?_
    iterate 2 ((with_reducible refine x_val (v := ?_) ?_ ?_ ?_); rotate_left; (rintro _ ⟨h1, h2⟩; go_simp; first | done | rfl | (constructor <;> rfl)); exact ⟨c1, e2⟩)
    with_reducible refine x_three ?_
    with_reducible refine l_skip (w' := w7.setCell ⟨g, i * 2, none⟩ (.slice A7 nl c7)) ?_ ?_
    · go_simp
    refine x_last ?_
    with_reducible refine x_end ?_
    simp only [Act.put, List.setIfInBounds_toArray, List.set_cons_zero, List.set_cons_succ]
    go_wp2_with fail
    exact Hend.out
end Go.Proofs.YtaolddgnannojaaGreatDoor
namespace Go.Proofs.YtaolddgnannojaaGreatDoor
open Go.RowKit Go.Maps

attribute [local go_sem] lt1 lt2 lt3 lt4 lt5 lt6

theorem chCell_len (P : List RChg) : ∀ c ∈ P.map chCell, c.length = 4 := fun c hc => by
  obtain ⟨p, _, rfl⟩ := List.mem_map.1 hc
  rfl
def noCh : RChg := ⟨⟨#[]⟩, ⟨#[]⟩, ⟨#[]⟩, 0⟩
theorem chCells_len (P : List RChg) : (chCells P).length = P.length * 4 := by unfold chCells; rw [flat_len (chCell_len P), List.length_map]
theorem chCells_drop (L : List RChg) : ∀ k, (chCells L).drop (k * 4) = chCells (L.drop k) := by
  induction L with
  | nil => intro k; simp [chCells]
  | cons p L ih =>
    intro k
    cases k with
    | zero => simp [chCells]
    | succ k =>
      have e : chCells (p :: L) = chCell p ++ chCells L := rfl
      rw [e, List.drop_succ_cons, List.drop_append, ← ih k]
      have hl : (chCell p).length = 4 := rfl
      rw [hl, List.drop_of_length_le (by rw [hl]; omega), show (k + 1) * 4 - 4 = k * 4 by omega]
      rfl
theorem chCells_one (L : List RChg) : ∀ u ∈ chCells L, u.oneCell' = true := by
  intro u hu
  unfold chCells at hu
  obtain ⟨c, hc, hu⟩ := List.mem_flatten.1 hu
  obtain ⟨p, _, rfl⟩ := List.mem_map.1 hc
  exact one_chg1 u hu
def cutH (A : Option Addr) (c l : Nat) : Option Addr := if c = l then A else A.map (·.add (l * 4))
theorem slice_loH (A : Option Addr) (n c l : Nat) (h : l ≤ n) (w : World) : (Instr.slice 52 (.slice A n c) (some (.int .i64 (l : Int))) none none).run Tryz.prog w = .ok (.slice (cutH A c l) (n - l) (c - l)) w := by
  have e : Tryz.prog.elem 52 = 99 := by kernel_rfl
  have ht : Tryz.prog.underlying 52 = some (.slice (Tryz.prog.elem 52)) := by rw [e]; exact Tryz.underlying52
  obtain ⟨i0, hi0, hz0, hz1, hz2⟩ := info_parts infoChange1
  rw [run_slice_l (w := w) (ht := ht) (kl := .i64) (h0 := by omega) (h1 := by omega), e]
  simp [sizeOf, typeInfo, hi0, hz1, sliced, cutH]
theorem Sl.cutH {w : World} {A : Option Addr} {c n l : Nat} {xs : List Value} (h : Sl w A c n 4 xs) (hl : l ≤ n) : Sl w (cutH A c l) (c - l) (n - l) 4 (xs.drop (l * 4)) := by
  have h1 := h.le
  have h2 := h.big
  refine ⟨by rw [List.length_drop, h.len]; omega, ?_, by omega, by omega, fun hn => ?_⟩
  · intro hA
    unfold Go.Proofs.YtaolddgnannojaaGreatDoor.cutH at hA
    split at hA
    · omega
    · cases A with
      | none => have := h.nil rfl; omega
      | some a => simp at hA
  · obtain ⟨b, o, rfl, hx⟩ := h.cells (by omega)
    refine ⟨b, o + l * 4, ?_, fun j hj => ?_⟩
    · unfold Go.Proofs.YtaolddgnannojaaGreatDoor.cutH
      rw [if_neg (by omega)]
      simp [Addr.add]
    · rw [Nat.add_assoc, hx (l * 4 + j) (by omega), List.getElem?_drop]
theorem own_slk {w : World} {base k n : Nat} {e : TypeId} {v : Value} {xs : List Value} (h : w.ownsRow base e k v n xs) : ∃ A c, v = .slice A n c ∧ Sl w A c n k xs := by
  have hl := h.1
  obtain ⟨A, c, rfl, hn, hA, hnc, hcm⟩ := own_form h
  refine ⟨A, c, rfl, hl, fun h => hn h, hnc, hcm, fun hp => ?_⟩
  cases A with
  | none => have := (hn rfl).1; omega
  | some a =>
    obtain ⟨g, rfl⟩ := hA a rfl
    refine ⟨g, 0, rfl, fun j hj => ?_⟩
    have hlj : j < xs.length := by rw [hl]; exact hj
    rw [Nat.zero_add, List.getElem?_eq_getElem hlj]
    exact own_cell h (List.getElem?_eq_getElem hlj)
theorem pend_at {w : World} {base : Nat} {v : Value} {P : List RChg} (h : w.ownsRow base 99 4 v P.length (chCells P)) {k : Nat} (hk : k < P.length) :
    ∃ g c, v = .slice (some ⟨g, 0, none⟩) P.length c ∧ w.cell? ⟨g, k * 4, none⟩ = some (.string (P.getD k noCh).dir) ∧ w.cell? ⟨g, k * 4 + 1, none⟩ = some (.string (P.getD k noCh).off) ∧ w.cell? ⟨g, k * 4 + 2, none⟩ = some (.string (P.getD k noCh).on) ∧ w.cell? ⟨g, k * 4 + 3, none⟩ = some (.int .i64 ((P.getD k noCh).no : Nat)) := by
  obtain ⟨A, c, rfl, hA0, hA1, _, _⟩ := own_form h
  obtain ⟨g, hg⟩ : ∃ g, A = some ⟨g, 0, none⟩ := by
    cases A with
    | none => have := (hA0 rfl).1; omega
    | some a => obtain ⟨g, rfl⟩ := hA1 a rfl; exact ⟨g, rfl⟩
  subst hg
  have hm : (P.map chCell)[k]? = some (chCell (P.getD k noCh)) := by rw [List.getElem?_map, List.getD_eq_getElem?_getD, List.getElem?_eq_getElem hk]; rfl
  have hf := fun (j : Nat) (hj : j < 4) => flat_at (chCell_len P) hm hj
  refine ⟨g, c, rfl, own_cell h ?_, own_cell h ?_, own_cell h ?_, own_cell h ?_⟩
  · have := hf 0 (by omega); rw [Nat.add_zero] at this; exact this.trans rfl
  · exact (hf 1 (by omega)).trans rfl
  · exact (hf 2 (by omega)).trans rfl
  · exact (hf 3 (by omega)).trans rfl
theorem foldl_snoc (R : RSt) {k : Nat} (h : k < R.pend.length) : (R.pend.take (k + 1)).foldl does R.safe = does ((R.pend.take k).foldl does R.safe) (R.pend.getD k noCh) := by
  have e : R.pend.take (k + 1) = R.pend.take k ++ [R.pend.getD k noCh] := by
    rw [List.take_succ_eq_append_getElem h]
    simp [List.getD_eq_getElem?_getD, h]
  rw [e, List.foldl_append]
  rfl
def LaRel (w : World) (M : RMem) (R : RSt) (n : Nat) (iv : Value) (wr : World) : Prop :=
  ∃ (k : Nat) (M' : RMem), k ≤ n ∧ iv = .int .i64 k ∧ RAt wr M' { R with safe := (R.pend.take k).foldl does R.safe } ∧ RGr M w M' wr
set_option maxHeartbeats 8000000 in
set_option maxRecDepth 100000 in
theorem rlasts_any (w : World) (M : RMem) (R : RSt) (h : RAt w M R) (hp : R.pend.length ≤ 1048576) (hs : ∀ j, ((R.pend.take j).foldl does R.safe).length ≤ 1048576) (hc : ∀ c ∈ R.pend, c.off.size ≠ 0 ∨ c.on.size ≠ 0) (n : Nat) (hn : n ≤ R.pend.length) :
    Calls Tryz.prog 79 #[.pointer (some ⟨M.rb, 0, none⟩), .int .i64 (n : Nat)] w (RPost w M (R.lasts n) (.tuple #[])) := by
  obtain ⟨P, hP⟩ : ∃ P, P = RPost w M (R.lasts n) (.tuple #[]) := ⟨_, rfl⟩
  rw [← hP]
  have HP := Lib.hid hP
  have Hs := Lib.hid hs
  have Hc := Lib.hid hc
  have H0 : Hid (LaRel w M R n (.int .i64 0) w) := Lib.hid ⟨0, M, by omega, rfl, h, RGr.refl _ _⟩
  obtain ⟨rb, hrb⟩ : ∃ rb, rb = M.rb := ⟨_, rfl⟩
  rw [← hrb]
  have Hrb := Lib.hid hrb
  clear hP h hs hc hrb
  go_enter Tryz.func79, Tryz.ntmps79
  go_wp2_with fail
  go_loopw [4] (fun iv wr => LaRel w M R n iv wr) (fun iv _ => n - (intOf iv).toNat)
  case atStart => exact H0.out
  case round =>
    clear H0
    obtain ⟨k, M1, hk, rfl, h1, g1⟩ := hrel
    have hrb1 : M1.rb = rb := by rw [g1.rb]; exact Hrb.out.symm
    by_cases hlt : k < n
    · have hlI : (k : Int) < n := by omega
      obtain ⟨gp, cp, e4, q0, q1, q2, q3⟩ := pend_at h1.pend (show k < R.pend.length by omega)
      have hch := Hc.out (R.pend.getD k noCh) (by rw [List.getD_eq_getElem?_getD, List.getElem?_eq_getElem (by omega)]; exact List.getElem_mem _)
      have hsn := foldl_snoc R (show k < R.pend.length by omega)
      have hsl := Hs.out k
      obtain ⟨As, cs, hsv, hat⟩ := h1.safe.rows
      have c4 : wr.cell? ⟨rb, 4, none⟩ = some (.slice (some ⟨gp, 0, none⟩) R.pend.length cp) := by rw [← hrb1, ← e4]; exact h1.cell 4 _ rfl
      have c3 : wr.cell? ⟨rb, 3, none⟩ = some (.slice As ((R.pend.take k).foldl does R.safe).length cs) := by rw [← hrb1, ← hsv]; exact h1.cell 3 _ rfl
      obtain ⟨L, hL⟩ : ∃ L, L = (R.pend.take k).foldl does R.safe := ⟨_, rfl⟩
      rw [← hL] at hsn hsl hat c3 h1
      have H1 := Lib.hid h1
      have G1 := Lib.hid g1
      have Hat := Lib.hid hat
      have Hsn := Lib.hid hsn
      have Hrb1 := Lib.hid hrb1
      clear hsn hat h1 g1 hL hsv e4 hrb1
      simp only at q0 q1 q2 q3
      obtain ⟨ch, hch2⟩ : ∃ ch, ch = R.pend.getD k noCh := ⟨_, rfl⟩
      rw [← hch2] at q0 q1 q2 q3 hch Hsn
      clear hch2
      have hkp : (k : Int) < R.pend.length := by omega
      go_wp2_with fail
      obtain ⟨wd, hwd⟩ : ∃ wd, wd = wr.drew := ⟨_, rfl⟩
      have c4 : wr.drew.cell? ⟨rb, 4, none⟩ = some (.slice (some ⟨gp, 0, none⟩) R.pend.length cp) := c4
      have c3 : wr.drew.cell? ⟨rb, 3, none⟩ = some (.slice As L.length cs) := c3
      have q0 : wr.drew.cell? ⟨gp, k * 4, none⟩ = some (.string ch.dir) := q0
      have q1 : wr.drew.cell? ⟨gp, k * 4 + 1, none⟩ = some (.string ch.off) := q1
      have q2 : wr.drew.cell? ⟨gp, k * 4 + 2, none⟩ = some (.string ch.on) := q2
      have q3 : wr.drew.cell? ⟨gp, k * 4 + 3, none⟩ = some (.int .i64 (ch.no : Nat)) := q3
      with_reducible refine g_mixx [(0, 0), (1, 0), (2, 0), (3, 0), (4, 0), (5, 0), (6, 0), (7, 0), (8, 0), (9, 0), (10, 0), (11, 0), (12, 2), (13, 0), (14, 0), (15, 3)] (fun w' => (w'.cell? ⟨rb, 4, none⟩ = some (.slice (some ⟨gp, 0, none⟩) R.pend.length cp) ∧ w'.cell? ⟨rb, 3, none⟩ = some (.slice As L.length cs)) ∧ (w'.cell? ⟨gp, k * 4, none⟩ = some (.string ch.dir) ∧ w'.cell? ⟨gp, k * 4 + 1, none⟩ = some (.string ch.off)) ∧ w'.cell? ⟨gp, k * 4 + 2, none⟩ = some (.string ch.on) ∧ w'.cell? ⟨gp, k * 4 + 3, none⟩ = some (.int .i64 (ch.no : Nat))) 0 _ rfl (by kernel_rfl) (by kernel_rfl) ?_ ?_
      · exact ⟨⟨c4, c3⟩, ⟨q0, q1⟩, q2, q3⟩
      intro OPS HD
      rw [← hwd] at c4 c3 q0 q1 q2 q3
      simp only [mixX, nthO, consX]
      rw [← hwd]
      have H1d : Hid (RAt wd M1 { R with safe := L }) := Lib.hid (by rw [hwd]; exact H1.out.drewN 1)
      have G1d : Hid (RGr M w M1 wd) := Lib.hid (by rw [hwd]; exact G1.out.trans (RGr.of_below ⟨rfl, rfl, rfl, Nat.le_refl _, fun _ _ => rfl⟩))
      have Hatd : Hid (NAt wd As cs L) := Lib.hid (by rw [hwd]; exact Hat.out.keep fun _ _ h => h)
      clear hwd H1 G1 Hat
      iterate 12 ((with_reducible refine x_val (v := ?_) ?_ ?_ ?_); rotate_left; (rintro _ ⟨⟨h1, h2⟩, ⟨h3, h4⟩, h5, h6⟩; go_simp; first | done | rfl | (constructor <;> rfl)); exact ⟨⟨c4, c3⟩, ⟨q0, q1⟩, q2, q3⟩)
      with_reducible refine x_one ?_
      have hdo := does_any wd As cs L ch Hatd.out hsl hch
      unfold chCell at hdo
      have Hdo := Lib.hid hdo
      clear hdo
      refine l_call ?_ (Hdo.out.mono ?_)
      · go_simp
      rintro e w2 ⟨v, rfl, ho, hb⟩
      refine ⟨_, rfl, ?_⟩
      obtain ⟨n1, hn1⟩ : ∃ n1, n1 = (does L ch).length := ⟨_, rfl⟩
      obtain ⟨A1, c1, hv, _⟩ := NOwn.rows ho
      rw [← hn1] at hv
      subst hv
      have hcw := Cells.of_below hb
      have c4 := hcw _ _ c4
      have c3 := hcw _ _ c3
      have q0 := hcw _ _ q0
      have q1 := hcw _ _ q1
      have q2 := hcw _ _ q2
      have q3 := hcw _ _ q3
      obtain ⟨hr3, gr3⟩ := H1d.out.setSafe hb (show NOwn w2 wd.heap.size (.slice A1 n1 c1) (does L ch) from ho)
      have f3 : w2.frozen? ⟨rb, 3, none⟩ = false := by rw [← Hrb1.out]; exact (blk_cells (H1d.out.below hb).blk).2.1 3
      have Hfin : Hid (LaRel w M R n (.int .i64 ((k : Int) + 1)) (w2.setCell ⟨rb, 3, none⟩ (.slice A1 n1 c1))) := Lib.hid ⟨k + 1, _, by omega, by simp, by rw [Hsn.out]; rw [Hrb1.out] at hr3; exact hr3, by rw [Hrb1.out] at gr3; exact G1d.out.trans gr3⟩
      clear hr3 gr3 ho hb hcw hn1
      refine x_keep ⟨⟨c4, c3⟩, ⟨q0, q1⟩, q2, q3⟩ ?_
      iterate 2 ((with_reducible refine x_val (v := ?_) ?_ ?_ ?_); rotate_left; (rintro _ ⟨⟨h1, h2⟩, ⟨h3, h4⟩, h5, h6⟩; go_simp; first | done | rfl | (constructor <;> rfl)); exact ⟨⟨c4, c3⟩, ⟨q0, q1⟩, q2, q3⟩)
      with_reducible refine x_three ?_
      with_reducible refine l_skip (w' := w2.setCell ⟨rb, 3, none⟩ (.slice A1 n1 c1)) ?_ ?_
      · go_simp
      refine x_last ?_
      with_reducible refine x_end ?_
      simp only [Act.put, List.setIfInBounds_toArray, List.set_cons_zero, List.set_cons_succ]
      go_wp2_with fail
      go_roundw
      case rel => exact Hfin.out
      case measure => simp [intOf]; omega
    · obtain rfl : k = n := by omega
      have hlI : ¬ (k : Int) < k := by omega
      obtain ⟨Ap, cp, hpv, hsl⟩ := own_slk h1.pend
      simp only at hpv hsl
      have c4 : wr.cell? ⟨rb, 4, none⟩ = some (.slice Ap R.pend.length cp) := by rw [← hrb1, ← hpv]; exact h1.cell 4 _ rfl
      have hrl : rb < wr.heap.size := by rw [← hrb1]; exact lt_of_heap h1.blk
      have hcut := hsl.cutH hn
      rw [chCells_drop] at hcut
      have hsli := slice_loH Ap R.pend.length cp k hn
      have H1 := Lib.hid h1
      have G1 := Lib.hid g1
      have Hcut := Lib.hid hcut
      have Hrb1 := Lib.hid hrb1
      obtain ⟨iC, hiC, hzC, hsC, hbC⟩ := info_parts infoChange1
      have hone := chCells_one (R.pend.drop k)
      clear h1 g1 hpv hsl hcut hrb1 hlI hlt hk
      have hlI : ¬ (k : Int) < k := by omega
      have hmx : cp - k ≤ maxLen := Hcut.out.big
      go_wp2_with (first | (at_builtin; refine wpList_append_sl rfl _ _ 52 rfl wr.heap.size 99 iC (.agg #[.string ⟨#[]⟩, .string ⟨#[]⟩, .string ⟨#[]⟩, .int .i64 0]) 4 56 Tryz.underlying52 hiC hzC hsC hbC rfl (by omega) _ 0 [] rfl (World.ownsRow_made wr #[] 0 (Nat.le_refl _) (by simp) (by simp)) _ (R.pend.length - k) (cp - k) (chCells (R.pend.drop k)) rfl (Hcut.out.keep (Cells.of_below ((Below.refl _ _).alloc (Nat.le_refl _) _))) hone (by unfold maxLen; omega) (by omega) (by simp) ?_))
      intro v5 w5 h5 g5
      have b5 : Below wr.heap.size wr w5 := ((Below.refl _ _).alloc (Nat.le_refl _) _).grown g5 (by simp) (by intro k hk; cases hk; exact Nat.le_refl _)
      have hrow5 : w5.ownsRow 0 99 4 v5 (R.pend.drop k).length (chCells (R.pend.drop k)) := by rw [List.length_drop]; exact own_base h5 (Nat.zero_le _)
      obtain ⟨hr6, g6⟩ := H1.out.setPend (w2 := w5) ⟨b5.os, b5.tape, b5.output, b5.size, fun k hk _ => b5.block k hk⟩ (v := v5) hrow5 (fun b hb => .inr (own_blk h5 b hb).1)
      obtain ⟨A5, c5, hv5⟩ := own_formT h5
      rw [hv5] at hr6 g6 ⊢
      have c4 := (Cells.of_below b5) _ _ c4
      have hblk := (H1.out.below b5).blk
      rw [Hrb1.out] at hblk
      have f4 : w5.frozen? ⟨rb, 4, none⟩ = false := (blk_cells hblk).2.1 4
      have Hfin : Hid (P (.returned (.tuple #[])) (w5.setCell ⟨rb, 4, none⟩ (.slice A5 (R.pend.length - k) c5))) := Lib.hid (by
        rw [HP.out]
        rw [Hrb1.out] at hr6 g6
        exact ⟨rfl, _, hr6, G1.out.trans g6⟩)
      clear h5 g5 b5 hrow5 hr6 g6 hv5 hblk Hcut hone H1 G1
      go_wp2_with fail
      go_end0
      exact Hfin.out
end Go.Proofs.YtaolddgnannojaaGreatDoor
