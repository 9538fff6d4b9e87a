/-
  A module's prefix: laid ahead, taken off, the package's. (Printed by wip/abexp.py.)
  A module's prefix taken off, the package's. (Printed by wip/abexp.py.)
  A region by a plan with more than one guard.
  What ArkTells says, plain: the same names and hashes, the same sum; a prefix there and back.
-/
import Derived.Test.YtdmladdpbdcpjaaDoorArkUnB
import Derived.Test.YtdmladdpbdcpjaaDoorArkAbs
import Derived.Test.YtdmladdpbdcpjaaDoorArkRt
namespace Go.Proofs.YtdmladdpbdcpjaaDoor
open Go.RowKit

set_option linter.unusedSimpArgs false

attribute [local go_sem] lt1 lt2 lt3 lt4 lt5 lt6

/-- what a module's files' names begin with -/
def preOf (p v : ByteArray) : ByteArray := ((p ++ ⟨#[64]⟩) ++ v) ++ ⟨#[47]⟩
theorem preOf_size (p v : ByteArray) : (preOf p v).size = p.size + v.size + 2 := by
  unfold preOf
  simp only [ByteArray.size_append]
  show p.size + 1 + v.size + 1 = _
  omega
theorem prefixm_any (w : World) (p v : ByteArray) (hp : p.size ≤ 1048576) (hv : v.size ≤ 1048576) :
    Calls Tryd.prog 24 #[.agg #[.string p, .string v]] w fun e w' => e = .returned (.string (preOf p v)) ∧ Below w.heap.size w w' := by
  have hq1 : ¬ 9223372036854775807 < p.size + 1 := by omega
  have hq2 : ¬ 9223372036854775807 < p.size + 1 + v.size := by omega
  have hq3 : ¬ 9223372036854775807 < p.size + 1 + v.size + 1 := by omega
  go_enter Tryd.func24, Tryd.ntmps24
  go_wp2_with fail
  go_ret
  exact ⟨rfl, (Below.refl _ _).alloc (Nat.le_refl _) _⟩
def addP (p v : ByteArray) (f : Fl) : Fl := (preOf p v ++ f.1, f.2)
def AdRel (w : World) (gm : Nat) (l : List Fl) (p v : ByteArray) (ov iv : Value) (wr : World) : Prop :=
  ∃ i cs, i ≤ l.length ∧ iv = .int .i64 (i : Nat) ∧ All2 (CFm wr w.heap.size) cs ((l.take i).map (addP p v)) ∧ wr.ownsRow w.heap.size 46 2 ov i cs.flatten ∧ Below w.heap.size w wr ∧ wr.heap[gm]? = some (.cells #[.string p, .string v] 24 (0, 0))
def AdPost (w : World) (l : List Fl) (p v : ByteArray) (e : Ending) (w' : World) : Prop :=
  ∃ x, e = .returned x ∧ FlM w' w.heap.size x (l.map (addP p v)) ∧ Below w.heap.size w w'
theorem take_getF {l : List Fl} {i : Nat} (h : i < l.length) : l.take (i + 1) = l.take i ++ [l.getD i noFl] := by
  rw [List.take_succ_eq_append_getElem h]
  simp [List.getD_eq_getElem?_getD, h]
set_option maxHeartbeats 4000000 in
set_option maxRecDepth 100000 in
theorem add_any (w : World) (A : Option Addr) (c : Nat) (l : List Fl) (p v : ByteArray) (hf : FlAt w A c l) (hl : l.length ≤ 1048576) (hp : p.size ≤ 1048576) (hv : v.size ≤ 1048576) (hs : ∀ f ∈ l, f.1.size ≤ 1048576) (hd : ∀ f ∈ l, f.2.length ≤ 1048576) :
    Calls Tryd.prog 19 #[.slice A l.length c, .agg #[.string p, .string v]] w (AdPost w l p v) := by
  have Hf := Lib.hid hf
  have Hs := Lib.hid hs
  have Hd := Lib.hid hd
  clear hf hs hd
  obtain ⟨iF, hiF, hzF, hsF, hbF⟩ := info_parts infoFile
  have H0 : Hid (AdRel w w.heap.size l p v (.slice none 0 0) (.int .i64 0) (w.alloc (.cells #[.string p, .string v] 24))) := Lib.hid ⟨0, [], by omega, rfl, trivial, World.ownsRow_nil _ _ _ _, (Below.refl _ _).alloc (Nat.le_refl _) _, heap_alloc_new _ _⟩
  go_enter Tryd.func19, Tryd.ntmps19
  go_wp2_with fail
  obtain ⟨gm, hgm⟩ : ∃ gm, gm = w.heap.size := ⟨_, rfl⟩
  rw [← hgm] at H0 ⊢
  have Hgm := Lib.hid hgm
  rw [hgm] at H0
  have H0 : Hid (AdRel w gm l p v (.slice none 0 0) (.int .i64 0) (w.alloc (.cells #[.string p, .string v] 24))) := by rw [hgm]; exact H0
  clear hgm
  go_loopw [5, 10] (fun ov iv wr => AdRel w gm l p v ov iv wr) (fun _ iv _ => l.length - (intOf iv).toNat)
  case atStart => exact H0.out
  case round =>
    clear H0
    obtain ⟨i, cs, hi, rfl, hcs, hrow, hB, hm⟩ := hrel
    obtain ⟨Ao, co, rfl, _, _, _, _⟩ := own_form hrow
    have hir : (0 : Int) ≤ i := by omega
    have Hcs := Lib.hid hcs
    have Hrow := Lib.hid hrow
    have HB := Lib.hid hB
    have HM := Lib.hid hm
    have hsz := hB.size
    clear hcs hrow hB hm
    by_cases hlt : i < l.length
    · have hlI : (i : Int) < l.length := by omega
      obtain ⟨bb, oo, Ai, ci, rfl, f1, f2, hbs⟩ := Hf.out.at_ hlt
      have f1 := Cells.of_below HB.out _ _ f1
      have f2 := Cells.of_below HB.out _ _ f2
      have hfs := Hs.out _ (List.mem_of_getElem? (getD_some hlt))
      have hfd := Hd.out _ (List.mem_of_getElem? (getD_some hlt))
      have Htk := Lib.hid (take_getF hlt)
      have Hbs := Lib.hid hbs
      clear hbs
      generalize l.getD i noFl = f at *
      obtain ⟨nm, dat⟩ := f
      dsimp only at f1 f2 hfs hfd
      obtain ⟨gx, hgx⟩ : ∃ gx, gx = wr.heap.size := ⟨_, rfl⟩
      go_wp2_with fail
      rw [← hgx]
      generalize hW : wr.alloc (.cells #[.string nm, .slice Ai dat.length ci] 46) = W at *
      have hX : W.heap[gx]? = some (.cells #[.string nm, .slice Ai dat.length ci] 46 (0, 0)) := by rw [← hW, hgx]; exact heap_alloc_new _ _
      have hbW : Below wr.heap.size wr W := by rw [← hW]; exact (Below.refl _ _).alloc (Nat.le_refl _) _
      have hM1 : W.heap[gm]? = some (.cells #[.string p, .string v] 24 (0, 0)) := (hbW.block _ (lt_of_heap HM.out)).trans HM.out
      have E1 : Hid (W.cell? ⟨gx, 0, none⟩ = some (.string nm)) := Lib.hid ((blk_cells hX).1 0)
      have E2 : Hid (W.cell? ⟨gx, 1, none⟩ = some (.slice Ai dat.length ci)) := Lib.hid ((blk_cells hX).1 1)
      have E3 : Hid (W.cell? ⟨gm, 0, none⟩ = some (.string p)) := Lib.hid ((blk_cells hM1).1 0)
      have E4 : Hid (W.cell? ⟨gm, 1, none⟩ = some (.string v)) := Lib.hid ((blk_cells hM1).1 1)
      have HbW := Lib.hid hbW
      have HBW : Hid (Below w.heap.size w W) := Lib.hid (HB.out.trans (hbW.mono hsz))
      have hps := preOf_size p v
      have hq : ¬ 9223372036854775807 < p.size + v.size + 2 + nm.size := by omega
      have Hps := Lib.hid hps
      clear hX hM1 hbW hW hgx f1 f2 hps
      with_reducible refine g_mixx [(0, 0), (1, 0), (3, 0), (4, 0), (6, 0), (7, 0), (2, 2), (5, 0), (8, 2), (9, 0), (10, 2), (11, 3), (12, 1)] (fun w' => (w'.cell? ⟨gx, 0, none⟩ = some (.string nm) ∧ w'.cell? ⟨gx, 1, none⟩ = some (.slice Ai dat.length ci)) ∧ w'.cell? ⟨gm, 0, none⟩ = some (.string p) ∧ w'.cell? ⟨gm, 1, none⟩ = some (.string v)) 0 _ rfl (by kernel_rfl) (by kernel_rfl) ?_ ?_
      · exact ⟨⟨E1.out, E2.out⟩, E3.out, E4.out⟩
      intro OPS HD
      simp only [mixX, nthO, consX]
      iterate 6 ((with_reducible refine x_val (v := ?_) ?_ ?_ ?_); rotate_left; (rintro _ ⟨⟨h1, h2⟩, h3, h4⟩; go_simp; first | done | rfl | (constructor <;> rfl)); exact ⟨⟨E1.out, E2.out⟩, E3.out, E4.out⟩)
      with_reducible refine x_one ?_
      refine l_call ?_ ((prefixm_any W.drew p v hp hv).mono ?_)
      · go_simp
      rintro e w2 ⟨rfl, hb2⟩
      have hb2' : Below W.heap.size W w2 := ⟨hb2.os, hb2.tape, hb2.output, hb2.size, hb2.block⟩
      have hc2 := Cells.of_below hb2'
      have E1 := Lib.hid (hc2 _ _ E1.out)
      have E2 := Lib.hid (hc2 _ _ E2.out)
      have E3 := Lib.hid (hc2 _ _ E3.out)
      have E4 := Lib.hid (hc2 _ _ E4.out)
      have Hb2 := Lib.hid (HbW.out.trans (hb2'.mono HbW.out.size))
      clear hb2 hb2' hc2
      obtain ⟨P, hP⟩ : ∃ P, P = preOf p v := ⟨_, rfl⟩
      rw [← hP]
      have hPs : P.size = p.size + v.size + 2 := by rw [hP]; exact Hps.out
      have HP := Lib.hid hP
      have hq : ¬ 9223372036854775807 < P.size + nm.size := by omega
      have HPs := Lib.hid hPs
      clear hP hPs
      refine ⟨_, rfl, ?_⟩
      refine x_keep ⟨⟨E1.out, E2.out⟩, E3.out, E4.out⟩ ?_
      iterate 1 ((with_reducible refine x_val (v := ?_) ?_ ?_ ?_); rotate_left; (rintro _ ⟨⟨h1, h2⟩, h3, h4⟩; go_simp; first | done | rfl | (constructor <;> rfl)); exact ⟨⟨E1.out, E2.out⟩, E3.out, E4.out⟩)
      with_reducible refine x_one ?_
      refine l_call ?_ ((fresh_at dat Ai dat.length ci w2 rfl (by omega) (Hbs.out.keep (Cells.of_below (HB.out.trans (Hb2.out.mono hsz))))).mono ?_)
      · go_simp
      rintro e w4 ⟨g4, rfl, hg4, hgz, hb4⟩
      have hc4 := Cells.of_below hb4
      have F1 := Lib.hid (hc4 _ _ E1.out)
      have F2 := Lib.hid (hc4 _ _ E2.out)
      have F3 := Lib.hid (hc4 _ _ E3.out)
      have F4 := Lib.hid (hc4 _ _ E4.out)
      have Hb4r := Lib.hid (Hb2.out.trans (hb4.mono Hb2.out.size))
      have Hb4 := Lib.hid (HB.out.trans (Hb4r.out.mono hsz))
      have Hg4 := Lib.hid (And.intro hg4 (Nat.le_trans (Nat.le_trans hsz Hb2.out.size) hgz))
      have HM4 : Hid (w4.heap[gm]? = some (.cells #[.string p, .string v] 24 (0, 0))) := Lib.hid ((Hb4r.out.block _ (lt_of_heap HM.out)).trans HM.out)
      clear hc4 hg4 hgz hb4 E1 E2 E3 E4
      refine ⟨_, rfl, ?_⟩
      refine x_keep ⟨⟨F1.out, F2.out⟩, F3.out, F4.out⟩ ?_
      iterate 1 ((with_reducible refine x_val (v := ?_) ?_ ?_ ?_); rotate_left; (rintro _ ⟨⟨h1, h2⟩, h3, h4⟩; go_simp; first | done | rfl | (constructor <;> rfl)); exact ⟨⟨F1.out, F2.out⟩, F3.out, F4.out⟩)
      with_reducible refine x_one ?_
      iterate 1 (with_reducible refine l_val (v := ?_) (w' := ?_) ?_ ?_; rotate_left 2; (go_simp; first | done | rfl | (constructor <;> rfl)))
      refine x_keep ⟨⟨Cells.alloc _ _ _ _ F1.out, Cells.alloc _ _ _ _ F2.out⟩, Cells.alloc _ _ _ _ F3.out, Cells.alloc _ _ _ _ F4.out⟩ ?_
      have hba : Below w.heap.size w (w4.alloc (.cells #[.string (P ++ nm), .slice (some ⟨g4, 0, none⟩) dat.length dat.length] 46)) := Hb4.out.alloc Hb4.out.size _
      have hrow4 : w4.ownsRow w.heap.size 46 2 (.slice Ao i co) i cs.flatten := own_keep Hrow.out fun k cur h => (Hb4r.out.block k (lt_of_heap h)).trans h
      with_reducible refine x_three ?_
      refine wpList_append_own _ rfl (.tmp 14) (.tmp 24) 22 rfl w.heap.size 46 iF (.agg #[.string ⟨#[]⟩, .slice none 0 0]) 2 40 Tryd.underlying22 hiF hzF hsF hbF rfl (by omega) (.slice Ao i co) i cs.flatten ?_ (World.ownsRow.alloc hrow4 _) ⟨w4.heap.size, 0, none⟩ 1 1 [.string (P ++ nm), .slice (some ⟨g4, 0, none⟩) dat.length dat.length] ?_ rfl (fun j v hv => World.news_of_block (w := w4.alloc _) (heap_alloc_new w4 _) j v hv) one_file (by unfold maxLen; omega) (by omega) (by have := Hb4.out.size; simp; omega) ?_
      · simp [Act.eval, Act.put]
      · simp [Act.eval, Act.put]
      intro v' w5 hown hgrow _
      have hb5 : Below w.heap.size w w5 := hba.grown hgrow hba.size (fun q hq => (own_blk (World.ownsRow.alloc hrow4 (.cells #[.string (P ++ nm), .slice (some ⟨g4, 0, none⟩) dat.length dat.length] 46)) q hq).1)
      have h8 : Bytes8 w4 w5 := (Bytes8.of_below ((Below.refl _ _).alloc (Nat.le_refl _) _)).trans (Bytes8.of_grown hgrow (World.ownsRow.alloc hrow4 (.cells #[.string (P ++ nm), .slice (some ⟨g4, 0, none⟩) dat.length dat.length] 46)))
      have hcs5 : All2 (CFm w5 w.heap.size) (cs ++ [[Value.string (P ++ nm), Value.slice (some ⟨g4, 0, none⟩) dat.length dat.length]]) ((l.take (i + 1)).map (addP p v)) := by
        rw [Htk.out, List.map_append]
        exact (Hcs.out.mono fun _ _ h => (h.keep (Bytes8.of_below Hb4r.out)).keep h8).append ⟨g4, by rw [HP.out]; rfl, Hg4.out.2, hfd, h8 _ _ Hg4.out.1⟩
      have hrow5 : w5.ownsRow w.heap.size 46 2 v' (i + 1) (cs ++ [[Value.string (P ++ nm), Value.slice (some ⟨g4, 0, none⟩) dat.length dat.length]]).flatten := by
        rw [List.flatten_append, List.flatten_singleton]
        exact hown
      have hM5 : w5.heap[gm]? = some (.cells #[.string p, .string v] 24 (0, 0)) := by
        have h0 : (w4.alloc (.cells #[.string (P ++ nm), .slice (some ⟨g4, 0, none⟩) dat.length dat.length] 46)).heap[gm]? = some (.cells #[.string p, .string v] 24 (0, 0)) := (((Below.refl w4.heap.size w4).alloc (Nat.le_refl _) _).block _ (lt_of_heap HM4.out)).trans HM4.out
        refine (hgrow.block gm (lt_of_heap h0) fun e => ?_).trans h0
        obtain ⟨_, cur, hcur⟩ := own_blk (World.ownsRow.alloc hrow4 (.cells #[.string (P ++ nm), .slice (some ⟨g4, 0, none⟩) dat.length dat.length] 46)) _ e.symm
        rw [h0] at hcur
        simp at hcur
      have Hfin : Hid (AdRel w gm l p v v' (.int .i64 ((i : Int) + 1)) w5) := Lib.hid ⟨i + 1, _, by omega, by simp, hcs5, hrow5, hb5, hM5⟩
      clear h8 hcs5 hrow5 hb5 hown hgrow hba hrow4 hM5
      refine x_last ?_
      iterate 1 ((with_reducible refine x_any (v := ?_) ?_ ?_); rotate_left; (rintro _; go_simp; first | done | rfl | (constructor <;> rfl)))
      with_reducible refine x_end ?_
      simp only [Act.put, List.setIfInBounds_toArray, List.set_cons_zero, List.set_cons_succ]
      clear hq
      go_wp2_with fail
      go_roundw
      case rel => exact Hfin.out
      case measure => simp [intOf]; omega
    · have hlI : ¬ (i : Int) < l.length := by omega
      obtain rfl : i = l.length := by omega
      rw [List.take_length] at Hcs
      have Hfin : Hid (FlM wr w.heap.size (.slice Ao l.length co) (l.map (addP p v))) := Lib.hid ⟨cs, Hcs.out, by rw [List.length_map]; exact Hrow.out⟩
      go_wp2_with fail
      go_ret
      exact ⟨_, rfl, Hfin.out, HB.out⟩
end Go.Proofs.YtdmladdpbdcpjaaDoor
namespace Go.Proofs.YtdmladdpbdcpjaaDoor
open Go.RowKit

set_option linter.unusedSimpArgs false

attribute [local go_sem] lt1 lt2 lt3 lt4 lt5 lt6

/-- a name behind a prefix -/
def behind (P s : ByteArray) : ByteArray := ⟨(Lib.trimPrefix s.data.toList P.data.toList).toArray⟩
def stripB (P s : ByteArray) : Bool := Lib.hasPrefix s.data.toList P.data.toList && !(behind P s).toList.isEmpty
def stripP (P : ByteArray) : List Fl → Option (List Fl)
  | [] => some []
  | f :: r => if stripB P f.1 = true then (stripP P r).map fun l => (behind P f.1, f.2) :: l else none
def SpRel (w : World) (gm : Nat) (l : List Fl) (p v : ByteArray) (ov iv : Value) (wr : World) : Prop :=
  ∃ i cs out, i ≤ l.length ∧ iv = .int .i64 (i : Nat) ∧ stripP (preOf p v) l = (stripP (preOf p v) (l.drop i)).map (fun k => out ++ k) ∧ out.length = i ∧ All2 (CFm wr w.heap.size) cs out ∧ wr.ownsRow w.heap.size 46 2 ov i cs.flatten ∧ Below w.heap.size w wr ∧ wr.heap[gm]? = some (.cells #[.string p, .string v] 24 (0, 0))
def SpPost (w : World) (l : List Fl) (p v : ByteArray) (e : Ending) (w' : World) : Prop :=
  Below w.heap.size w w' ∧ match stripP (preOf p v) l with
    | none => e = .returned (.tuple #[.slice none 0 0, .int .i64 1])
    | some out => ∃ x, e = .returned (.tuple #[x, .int .i64 0]) ∧ FlM w' w.heap.size x out
theorem drop_getF {l : List Fl} {i : Nat} (h : i < l.length) : l.drop i = l.getD i noFl :: l.drop (i + 1) := by
  rw [List.drop_eq_getElem_cons h]
  simp [List.getD_eq_getElem?_getD, h]
set_option maxHeartbeats 4000000 in
set_option maxRecDepth 100000 in
theorem strip_any (w : World) (A : Option Addr) (c : Nat) (l : List Fl) (p v : ByteArray) (hf : FlAt w A c l) (hl : l.length ≤ 1048576) (hp : p.size ≤ 1048576) (hv : v.size ≤ 1048576) (hs : ∀ f ∈ l, f.1.size ≤ 1048576) (hd : ∀ f ∈ l, f.2.length ≤ 1048576) :
    Calls Tryd.prog 17 #[.slice A l.length c, .agg #[.string p, .string v]] w (SpPost w l p v) := by
  have Hf := Lib.hid hf
  have Hs := Lib.hid hs
  have Hd := Lib.hid hd
  clear hf hs hd
  obtain ⟨iF, hiF, hzF, hsF, hbF⟩ := info_parts infoFile
  have H0 : Hid (SpRel w w.heap.size l p v (.slice none 0 0) (.int .i64 0) (w.alloc (.cells #[.string p, .string v] 24))) := Lib.hid ⟨0, [], [], by omega, rfl, by simp, rfl, trivial, World.ownsRow_nil _ _ _ _, (Below.refl _ _).alloc (Nat.le_refl _) _, heap_alloc_new _ _⟩
  go_enter Tryd.func17, Tryd.ntmps17
  go_wp2_with fail
  obtain ⟨gm, hgm⟩ : ∃ gm, gm = w.heap.size := ⟨_, rfl⟩
  rw [← hgm] at H0 ⊢
  have Hgm := Lib.hid hgm
  rw [hgm] at H0
  have H0 : Hid (SpRel w gm l p v (.slice none 0 0) (.int .i64 0) (w.alloc (.cells #[.string p, .string v] 24))) := by rw [hgm]; exact H0
  clear hgm
  go_loopw [6, 13] (fun ov iv wr => SpRel w gm l p v ov iv wr) (fun _ iv _ => l.length - (intOf iv).toNat)
  case atStart => exact H0.out
  case round =>
    clear H0
    obtain ⟨i, cs, out, hi, rfl, hst, hol, hcs, hrow, hB, hm⟩ := hrel
    have Hst := Lib.hid hst
    have Hol := Lib.hid hol
    clear hst hol
    obtain ⟨Ao, co, rfl, _, _, _, _⟩ := own_form hrow
    have hir : (0 : Int) ≤ i := by omega
    have Hcs := Lib.hid hcs
    have Hrow := Lib.hid hrow
    have HB := Lib.hid hB
    have HM := Lib.hid hm
    have hsz := hB.size
    clear hcs hrow hB hm
    by_cases hlt : i < l.length
    · have hlI : (i : Int) < l.length := by omega
      obtain ⟨bb, oo, Ai, ci, rfl, f1, f2, hbs⟩ := Hf.out.at_ hlt
      have f1 := Cells.of_below HB.out _ _ f1
      have f2 := Cells.of_below HB.out _ _ f2
      have hfs := Hs.out _ (List.mem_of_getElem? (getD_some hlt))
      have hfd := Hd.out _ (List.mem_of_getElem? (getD_some hlt))
      have Hdr := Lib.hid (drop_getF hlt)
      have Hbs := Lib.hid hbs
      clear hbs
      generalize l.getD i noFl = f at *
      obtain ⟨nm, dat⟩ := f
      dsimp only at f1 f2 hfs hfd
      obtain ⟨gx, hgx⟩ : ∃ gx, gx = wr.heap.size := ⟨_, rfl⟩
      go_wp2_with fail
      rw [← hgx]
      generalize hW : wr.alloc (.cells #[.string nm, .slice Ai dat.length ci] 46) = W at *
      have hX : W.heap[gx]? = some (.cells #[.string nm, .slice Ai dat.length ci] 46 (0, 0)) := by rw [← hW, hgx]; exact heap_alloc_new _ _
      have hbW : Below wr.heap.size wr W := by rw [← hW]; exact (Below.refl _ _).alloc (Nat.le_refl _) _
      have hM1 : W.heap[gm]? = some (.cells #[.string p, .string v] 24 (0, 0)) := (hbW.block _ (lt_of_heap HM.out)).trans HM.out
      have E1 : Hid (W.cell? ⟨gx, 0, none⟩ = some (.string nm)) := Lib.hid ((blk_cells hX).1 0)
      have E2 : Hid (W.cell? ⟨gx, 1, none⟩ = some (.slice Ai dat.length ci)) := Lib.hid ((blk_cells hX).1 1)
      have E3 : Hid (W.cell? ⟨gm, 0, none⟩ = some (.string p)) := Lib.hid ((blk_cells hM1).1 0)
      have E4 : Hid (W.cell? ⟨gm, 1, none⟩ = some (.string v)) := Lib.hid ((blk_cells hM1).1 1)
      have HbW := Lib.hid hbW
      have HX := Lib.hid hX
      have HBW : Hid (Below w.heap.size w W) := Lib.hid (HB.out.trans (hbW.mono hsz))
      have hps := preOf_size p v
      have Hps := Lib.hid hps
      clear hX hM1 hbW hW hgx f1 f2 hps
      with_reducible refine g_mixx [(0, 0), (1, 0), (2, 0), (3, 2), (4, 2), (5, 0), (6, 0), (7, 0), (8, 0), (9, 0)] (fun w' => (w'.cell? ⟨gx, 0, none⟩ = some (.string nm) ∧ w'.cell? ⟨gx, 1, none⟩ = some (.slice Ai dat.length ci)) ∧ w'.cell? ⟨gm, 0, none⟩ = some (.string p) ∧ w'.cell? ⟨gm, 1, none⟩ = some (.string v)) 0 _ rfl (by kernel_rfl) (by kernel_rfl) ?_ ?_
      · exact ⟨⟨E1.out, E2.out⟩, E3.out, E4.out⟩
      intro OPS HD
      simp only [mixX, nthO, consX]
      iterate 3 ((with_reducible refine x_val (v := ?_) ?_ ?_ ?_); rotate_left; (rintro _ ⟨⟨h1, h2⟩, h3, h4⟩; go_simp; first | done | rfl | (constructor <;> rfl)); exact ⟨⟨E1.out, E2.out⟩, E3.out, E4.out⟩)
      with_reducible refine x_one ?_
      refine l_call ?_ ((prefixm_any W.drew p v hp hv).mono ?_)
      · go_simp
      rintro e w2 ⟨rfl, hb2⟩
      have hb2' : Below W.heap.size W w2 := ⟨hb2.os, hb2.tape, hb2.output, hb2.size, hb2.block⟩
      have hc2 := Cells.of_below hb2'
      have E1 := Lib.hid (hc2 _ _ E1.out)
      have E2 := Lib.hid (hc2 _ _ E2.out)
      have E3 := Lib.hid (hc2 _ _ E3.out)
      have E4 := Lib.hid (hc2 _ _ E4.out)
      have Hb2 := Lib.hid (HbW.out.trans (hb2'.mono HbW.out.size))
      have HX2 := Lib.hid ((hb2'.block _ (lt_of_heap HX.out)).trans HX.out)
      clear hb2 hb2' hc2
      obtain ⟨P, hP⟩ : ∃ P, P = preOf p v := ⟨_, rfl⟩
      rw [← hP] at Hst ⊢
      have HP := Lib.hid hP
      clear hP
      refine ⟨_, rfl, ?_⟩
      refine x_keep ⟨⟨E1.out, E2.out⟩, E3.out, E4.out⟩ ?_
      with_reducible refine x_one ?_
      refine l_call ?_ ((Tryd.strings_CutPrefix nm P w2).mono ?_)
      · go_simp
      rintro e w3 ⟨rfl, rfl⟩
      refine ⟨_, rfl, ?_⟩
      refine x_keep ⟨⟨E1.out, E2.out⟩, E3.out, E4.out⟩ ?_
      obtain ⟨T, hT⟩ : ∃ T, T = behind P nm := ⟨_, rfl⟩
      rw [show (⟨(Lib.trimPrefix nm.data.toList P.data.toList).toArray⟩ : ByteArray) = T from hT.symm]
      obtain ⟨hh, hhE⟩ : ∃ hh, hh = Lib.hasPrefix nm.data.toList P.data.toList := ⟨_, rfl⟩
      rw [← hhE]
      have hsb : stripB P nm = (hh && !T.toList.isEmpty) := by rw [stripB, ← hhE, ← hT]
      have HT := Lib.hid hT
      have Hsb := Lib.hid hsb
      clear hT hhE hsb
      iterate 5 ((with_reducible refine x_val (v := ?_) ?_ ?_ ?_); rotate_left; (rintro _ _; go_simp; first | done | rfl | (constructor <;> rfl)); exact ⟨⟨E1.out, E2.out⟩, E3.out, E4.out⟩)
      with_reducible refine x_end ?_
      simp only [Act.put, List.setIfInBounds_toArray, List.set_cons_zero, List.set_cons_succ]
      have Hnone : Hid (stripB P nm = false → SpPost w l p v (.returned (.tuple #[.slice none 0 0, .int .i64 1])) w3) := Lib.hid fun h => by
        refine ⟨HB.out.trans (Hb2.out.mono hsz), ?_⟩
        rw [← HP.out, Hst.out, Hdr.out, stripP, if_neg (by rw [h]; simp)]
        rfl
      cases hh with
      | false =>
        have Hfin := Lib.hid (Hnone.out (by rw [Hsb.out]; rfl))
        clear Hnone
        go_wp2_with fail
        go_ret2
        exact Hfin.out
      | true =>
        cases hte : T.toList.isEmpty with
        | true =>
          have Hfin := Lib.hid (Hnone.out (by rw [Hsb.out, hte]; rfl))
          clear Hnone
          have hte2 : T.toList = [] := by simpa using hte
          go_wp2_with fail
          all_goals (go_ret2; exact Hfin.out)
        | false =>
          have Hyes : Hid (stripB P nm = true) := Lib.hid (by rw [Hsb.out, hte]; rfl)
          have hte3 : (!T.toList.isEmpty) = true := by rw [hte]; rfl
          clear Hnone
          have e2 := E2.out
          have hte4 : ¬ T.toList = [] := by intro h; rw [h] at hte; cases hte
          go_wp2_with fail
          refine (fresh_at dat Ai dat.length ci w3 rfl (by omega) (Hbs.out.keep (Cells.of_below (HB.out.trans (Hb2.out.mono hsz))))).mono ?_
          rintro e w4 ⟨g4, rfl, hg4, hgz, hb4⟩
          have Hb4r := Lib.hid (Hb2.out.trans (hb4.mono Hb2.out.size))
          have Hb4 := Lib.hid (HB.out.trans (Hb4r.out.mono hsz))
          have Hg4 := Lib.hid (And.intro hg4 (Nat.le_trans (Nat.le_trans hsz Hb2.out.size) hgz))
          have HM4 : Hid (w4.heap[gm]? = some (.cells #[.string p, .string v] 24 (0, 0))) := Lib.hid ((Hb4r.out.block _ (lt_of_heap HM.out)).trans HM.out)
          have hba : Below w.heap.size w (w4.alloc (.cells #[.string T, .slice (some ⟨g4, 0, none⟩) dat.length dat.length] 46)) := Hb4.out.alloc Hb4.out.size _
          have hrow4 : w4.ownsRow w.heap.size 46 2 (.slice Ao i co) i cs.flatten := own_keep Hrow.out fun k cur h => (Hb4r.out.block k (lt_of_heap h)).trans h
          clear hg4 hgz hb4 e2
          go_wp2_with (first | (at_builtin; refine wpList_append_own _ rfl (.tmp 31) (.tmp 37) 22 rfl w.heap.size 46 iF (.agg #[.string ⟨#[]⟩, .slice none 0 0]) 2 40 Tryd.underlying22 hiF hzF hsF hbF rfl (by omega) (.slice Ao i co) i cs.flatten rfl (World.ownsRow.alloc hrow4 _) ⟨w4.heap.size, 0, none⟩ 1 1 [.string T, .slice (some ⟨g4, 0, none⟩) dat.length dat.length] rfl rfl (fun j v hv => World.news_of_block (w := w4.alloc _) (heap_alloc_new w4 _) j v hv) one_file (by unfold maxLen; omega) (by omega) (by have := Hb4.out.size; simp; omega) ?_))
          intro v' w5 hown hgrow _
          have hb5 : Below w.heap.size w w5 := hba.grown hgrow hba.size (fun q hq => (own_blk (World.ownsRow.alloc hrow4 (.cells #[.string T, .slice (some ⟨g4, 0, none⟩) dat.length dat.length] 46)) q hq).1)
          have h8 : Bytes8 w4 w5 := (Bytes8.of_below ((Below.refl _ _).alloc (Nat.le_refl _) _)).trans (Bytes8.of_grown hgrow (World.ownsRow.alloc hrow4 (.cells #[.string T, .slice (some ⟨g4, 0, none⟩) dat.length dat.length] 46)))
          have hcs5 : All2 (CFm w5 w.heap.size) (cs ++ [[Value.string T, Value.slice (some ⟨g4, 0, none⟩) dat.length dat.length]]) (out ++ [(T, dat)]) :=
            (Hcs.out.mono fun _ _ h => (h.keep (Bytes8.of_below Hb4r.out)).keep h8).append ⟨g4, rfl, Hg4.out.2, hfd, h8 _ _ Hg4.out.1⟩
          have hrow5 : w5.ownsRow w.heap.size 46 2 v' (i + 1) (cs ++ [[Value.string T, Value.slice (some ⟨g4, 0, none⟩) dat.length dat.length]]).flatten := by
            rw [List.flatten_append, List.flatten_singleton]
            exact hown
          have hM5 : w5.heap[gm]? = some (.cells #[.string p, .string v] 24 (0, 0)) := by
            have h0 : (w4.alloc (.cells #[.string T, .slice (some ⟨g4, 0, none⟩) dat.length dat.length] 46)).heap[gm]? = some (.cells #[.string p, .string v] 24 (0, 0)) := (((Below.refl w4.heap.size w4).alloc (Nat.le_refl _) _).block _ (lt_of_heap HM4.out)).trans HM4.out
            refine (hgrow.block gm (lt_of_heap h0) fun e => ?_).trans h0
            obtain ⟨_, cur, hcur⟩ := own_blk (World.ownsRow.alloc hrow4 (.cells #[.string T, .slice (some ⟨g4, 0, none⟩) dat.length dat.length] 46)) _ e.symm
            rw [h0] at hcur
            simp at hcur
          have hst5 : stripP (preOf p v) l = (stripP (preOf p v) (l.drop (i + 1))).map (fun k => (out ++ [(T, dat)]) ++ k) := by
            have h1 := Hst.out
            rw [Hdr.out, stripP, if_pos Hyes.out, ← HT.out] at h1
            rw [← HP.out, h1, Option.map_map]
            congr 1
            funext k
            simp
          have Hfin : Hid (SpRel w gm l p v v' (.int .i64 ((i : Int) + 1)) w5) := Lib.hid ⟨i + 1, _, out ++ [(T, dat)], by omega, by simp, hst5, by rw [List.length_append, Hol.out]; rfl, hcs5, hrow5, hb5, hM5⟩
          clear h8 hcs5 hrow5 hb5 hown hgrow hba hrow4 hM5 hst5
          go_wp2_with fail
          go_roundw
          case rel => exact Hfin.out
          case measure => simp [intOf]; omega
    · have hlI : ¬ (i : Int) < l.length := by omega
      obtain rfl : i = l.length := by omega
      have Hfin : Hid (SpPost w l p v (.returned (.tuple #[.slice Ao l.length co, .int .i64 0])) wr) := Lib.hid (by
        refine ⟨HB.out, ?_⟩
        have h1 := Hst.out
        rw [List.drop_length] at h1
        rw [h1]
        show ∃ x, _ ∧ _
        refine ⟨_, rfl, cs, by simpa using Hcs.out, ?_⟩
        simp only [List.append_nil]
        rw [Hol.out]
        exact Hrow.out)
      go_wp2_with fail
      go_ret2
      exact Hfin.out
end Go.Proofs.YtdmladdpbdcpjaaDoor
namespace Go.Proofs.YtdmladdpbdcpjaaDoor
open Go.RowKit

section
variable {P : Program} {ops : Array Oper} {Q : Exit → Act → World → Prop} {S : World → Prop}
theorem o_mixy {id : Nat} {l : List Oper} {R : Act → World → Prop} {a : Act} {w : World} (m : List (Nat × Nat)) (S : World → Prop) (hm : P.follows .mixedOrders = true) (hB : planX .any l.toArray m = true) (hS : S w.drew)
    (h : ∀ OPS : Array Oper, (∀ gi : Nat, (OPS[gi]?).bind (·.dst) = (l[gi]?).bind (·.dst)) → wpX P OPS (only R) S (mixX m l) a w.drew) : (Code.region id l.toArray true).wp P (only R) a w := by
  simp only [planX, Bool.and_eq_true, decide_eq_true_eq, List.all_eq_true] at hB
  obtain ⟨⟨⟨⟨h1, h2⟩, h3⟩, _⟩, h4⟩ := hB
  refine wp_region_any hm (wpAny_of_D (S := S) (L := firstX m) _ _ _ _ ?_)
  show wpAnyD P .any l.toArray (only R) S (firstX m) l.toArray.size _ a w.drew
  have hdn : false = dn (firstX m) l.toArray.size (Array.replicate l.toArray.size false) := by
    symm
    unfold dn
    rw [List.any_eq_false]
    intro x _
    rw [getD_replicate_false]
    simp
  have key := wpAnyD_mix (P := P) (ops := l.toArray) (Q := only R) (md := .any) (S := S) (L := firstX m) h1 (fun j hj => firstX_lt m _ j h3 hj) only_panic l rfl m false (Array.replicate l.toArray.size false) a w.drew h3 (by simp) h4
    ⟨by simp, (fun j oj _ hj => by rw [getD_replicate_false] at hj; cases hj), (fun t ht ht' => by omega)⟩ hdn (.inr hS) (h _ fun gi => by simp)
  rw [h2] at key
  exact key
theorem g_mixy {id : Nat} {l : List Oper} {a : Act} {w : World} (m : List (Nat × Nat)) (S : World → Prop) (hm : P.follows .mixedOrders = true) (hB : planX .any l.toArray m = true) (hS : S w.drew)
    (h : ∀ OPS : Array Oper, (∀ gi : Nat, (OPS[gi]?).bind (·.dst) = (l[gi]?).bind (·.dst)) → wpX P OPS (only (Q .normal)) S (mixX m l) a w.drew) : (Code.region id l.toArray true).wp P Q a w :=
  o_link (o_mixy m S hm hB hS h) fun _ _ h => h
theorem wanted_no {o : Oper} {gi : Nat} {dg : Tmp} {b : Bool} {a : Act} (hd : (ops[gi]?).bind (·.dst) = some dg) (hg : o.guard = some (gi, b)) (hb : a.eval (.tmp dg) = undef) : Region.wanted o (yielded ops a.tmps) = false := by
  simp only [Act.eval, Array.getD_eq_getD_getElem?] at hb
  simp only [Region.wanted, hg, yielded, hd, Option.bind_some]
  cases h : a.tmps[dg]? with
  | none => rfl
  | some v =>
    rw [h] at hb
    simp only [Option.getD_some] at hb
    rw [hb]
    rfl
end
section
variable {P : Program} {ops : Array Oper} {Q : Exit → Act → World → Prop} {S : World → Prop} {a : Act} {w : World} {d : Option Tmp} {op : Op} {ty : TypeId} {pos : String} {af : Array Edge} {gi : Nat} {dg : Tmp} {b : Bool}
theorem x_outu {rest : List (Nat × Oper)} (hd : (ops[gi]?).bind (·.dst) = some dg) (hb : a.eval (.tmp dg) = undef) (hS : S w) (h : wpX P ops Q S rest (a.put d undef) w) :
    wpX P ops Q S ((0, { dst := d, op := op, type := ty, pos := pos, after := af, guard := some (gi, b) }) :: rest) a w := ⟨undef, .inr ⟨wanted_no hd rfl hb, rfl⟩, hS, h⟩
/-- a guarded operation that is to be walked alone, left out -/
theorem x_oneg {rest : List (Nat × Oper)} {c : Bool} (hd : (ops[gi]?).bind (·.dst) = some dg) (hb : a.eval (.tmp dg) = .bool c) (hc : (c == b) = false) (hS : S w) (h : wpX P ops Q S rest (a.put d undef) w) :
    wpX P ops Q S ((2, { dst := d, op := op, type := ty, pos := pos, after := af, guard := some (gi, b) }) :: rest) a w := x_one (l_outg hd hb hc (x_keep hS h))
theorem l_outu {rest : List Oper} (hd : (ops[gi]?).bind (·.dst) = some dg) (hb : a.eval (.tmp dg) = undef) (h : wpList P ops Q rest (a.put d undef) w) :
    wpList P ops Q ({ dst := d, op := op, type := ty, pos := pos, after := af, guard := some (gi, b) } :: rest) a w := by
  have hw : Region.wanted { dst := d, op := op, type := ty, pos := pos, after := af, guard := some (gi, b) } (yielded ops a.tmps) = false := wanted_no hd rfl hb
  simp only [wpList, hw]
  exact h
theorem x_onegu {rest : List (Nat × Oper)} (hd : (ops[gi]?).bind (·.dst) = some dg) (hb : a.eval (.tmp dg) = undef) (hS : S w) (h : wpX P ops Q S rest (a.put d undef) w) :
    wpX P ops Q S ((2, { dst := d, op := op, type := ty, pos := pos, after := af, guard := some (gi, b) }) :: rest) a w := x_one (l_outu hd hb (x_keep hS h))
end
end Go.Proofs.YtdmladdpbdcpjaaDoor
namespace Go.Proofs.YtdmladdpbdcpjaaDoor

theorem behind_add (P s : ByteArray) : behind P (P ++ s) = s ∧ Lib.hasPrefix (P ++ s).data.toList P.data.toList = true := by
  have e : (P ++ s).data.toList = P.data.toList ++ s.data.toList := by simp
  have hp : Lib.hasPrefix (P.data.toList ++ s.data.toList) P.data.toList = true := by
    unfold Lib.hasPrefix
    rw [List.isPrefixOf_iff_prefix]
    exact List.prefix_append _ _
  refine ⟨?_, by rw [e]; exact hp⟩
  unfold behind Lib.trimPrefix
  rw [e, if_pos hp, List.drop_left]
theorem strip_add (p v : ByteArray) : ∀ l : List Fl, (∀ f ∈ l, f.1.toList.isEmpty = false) → stripP (preOf p v) (l.map (addP p v)) = some l
  | [], _ => rfl
  | f :: r, h => by
    obtain ⟨h1, h2⟩ := behind_add (preOf p v) f.1
    have ih := strip_add p v r fun g hg => h g (by simp [hg])
    rw [List.map_cons, stripP]
    have hs : stripB (preOf p v) (addP p v f).1 = true := by
      show (Lib.hasPrefix (preOf p v ++ f.1).data.toList (preOf p v).data.toList && !(behind (preOf p v) (preOf p v ++ f.1)).toList.isEmpty) = true
      rw [h2, h1, h f (by simp)]
      rfl
    rw [if_pos hs, ih]
    show some ((behind (preOf p v) (preOf p v ++ f.1), f.2) :: r) = _
    rw [h1]
/-- is there a file of x's name and hash among the first n? -/
def foundB (k : List Fl) (x : Fl) : Nat → Bool
  | 0 => false
  | n + 1 => foundB k x n || ((k.getD n noFl).1.toList == x.1.toList && (sha (k.getD n noFl).2 == sha x.2))
theorem foundB_mem {k : List Fl} {x : Fl} : ∀ n, n ≤ k.length → foundB k x n = true → ∃ q ∈ k, q.1 = x.1 ∧ sha q.2 = sha x.2
  | 0, _, h => by cases h
  | n + 1, hn, h => by
    unfold foundB at h
    rw [Bool.or_eq_true] at h
    rcases h with h | h
    · exact foundB_mem n (by omega) h
    · rw [Bool.and_eq_true, beq_iff_eq, beq_iff_eq, Lib.toList_data, Lib.toList_data] at h
      exact ⟨k.getD n noFl, List.mem_of_getElem? (getD_some (by omega)), ByteArray.ext (Array.toList_inj.1 h.1), h.2⟩
theorem lines_key (L : List Fl) : linesOf L = (L.map fun p => (p.1, sha p.2)).flatMap fun q => hexOf q.2 ++ [32, 32] ++ toL q.1 ++ [10] := by
  unfold linesOf
  rw [List.flatMap_map]
  rfl
theorem perm_of_sub {α : Type} : ∀ (A B : List α), A.Nodup → (∀ x ∈ A, x ∈ B) → A.length = B.length → A.Perm B
  | [], B, _, _, h => by
    cases B with
    | nil => exact List.Perm.refl _
    | cons _ _ => simp at h
  | a :: A, B, hn, hs, hl => by
    obtain ⟨s, t, rfl⟩ := List.append_of_mem (hs a (by simp))
    obtain ⟨h1, h2⟩ := List.nodup_cons.1 hn
    refine ((perm_of_sub A (s ++ t) h2 (fun x hx => ?_) ?_).cons a).trans List.perm_middle.symm
    · have := hs x (by simp [hx])
      rw [List.mem_append, List.mem_cons] at this
      rw [List.mem_append]
      rcases this with h | rfl | h
      · exact .inl h
      · exact absurd hx h1
      · exact .inr h
    · simp at hl ⊢
      omega
/-- the same names with the same hashes: the same sum -/
theorem tells_sum {l k : List Fl} (hl : namesErr [] (namesOf l) = 0) (hk : namesErr [] (namesOf k) = 0) (hlen : l.length = k.length) (hs : ∀ p ∈ l, ∃ q ∈ k, q.1 = p.1 ∧ sha q.2 = sha p.2) : sumOf (byName l) = sumOf (byName k) := by
  have hkey : (byName l).map (fun p => (p.1, sha p.2)) = (byName k).map fun p => (p.1, sha p.2) := by
    have hnd : ∀ {m : List Fl}, namesErr [] (namesOf m) = 0 → (m.map fun p => (p.1, sha p.2)).Nodup := fun {m} hm => by
      obtain ⟨_, hp⟩ := (namesErr_zero _ _).1 hm
      unfold namesOf at hp
      rw [List.map_map, List.pairwise_map] at hp
      unfold List.Nodup
      rw [List.pairwise_map]
      exact hp.imp fun {a b} h e => h (by
        have e' : a.1 = b.1 := (Prod.mk.inj e).1
        simp only [Function.comp]
        rw [e'])
    have hsub : ∀ x ∈ l.map (fun p => (p.1, sha p.2)), x ∈ k.map fun p => (p.1, sha p.2) := by
      intro x hx
      obtain ⟨p, hp, rfl⟩ := List.mem_map.1 hx
      obtain ⟨q, hq, e1, e2⟩ := hs p hp
      exact List.mem_map.2 ⟨q, hq, by rw [e1, e2]⟩
    have hperm : (l.map fun p => (p.1, sha p.2)).Perm (k.map fun p => (p.1, sha p.2)) :=
      perm_of_sub _ _ (hnd hl) hsub (by simp [hlen])
    refine List.Perm.eq_of_pairwise (le := fun a b => bl b.1.toList a.1.toList = false) (fun a b ha hb h1 h2 => ?_) ?_ ?_ (((byName_perm l).map _).trans (hperm.trans ((byName_perm k).map _).symm))
    · obtain ⟨p, hp, rfl⟩ := List.mem_map.1 ha
      obtain ⟨q, hq, rfl⟩ := List.mem_map.1 hb
      have e := bl_eq _ _ h2 h1
      have e : p.1 = q.1 := by
        have e' : p.1.toList = q.1.toList := e
        rw [Lib.toList_data, Lib.toList_data] at e'
        exact ByteArray.ext (Array.toList_inj.1 e')
      obtain ⟨q', hq', e1, e2⟩ := hs p ((byName_perm l).mem_iff.1 hp)
      have : q' = q := names_apart hk q' hq' q ((byName_perm k).mem_iff.1 hq) (e1.trans e)
      subst this
      rw [e, e2]
    · rw [List.pairwise_map]; exact byName_sorted l
    · rw [List.pairwise_map]; exact byName_sorted k
  unfold sumOf
  rw [lines_key, lines_key, hkey]
end Go.Proofs.YtdmladdpbdcpjaaDoor
