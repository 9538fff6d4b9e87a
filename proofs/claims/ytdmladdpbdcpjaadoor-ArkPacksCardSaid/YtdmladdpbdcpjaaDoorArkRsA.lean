/-
  The reference's copies of files (mewsref.Files). (Printed by wip/abexp.py.)
  The reference's prefix of a module: laid ahead, taken off. (Printed by wip/abexp.py.)
-/
import Derived.Test.YtdmladdpbdcpjaaDoorArkRu5
import Derived.Test.YtdmladdpbdcpjaaDoorArkTlA
import Derived.Lib.IndexBytes
namespace Go.Proofs.YtdmladdpbdcpjaaDoor
open Go.RowKit

set_option linter.unusedSimpArgs false

attribute [local go_sem] lt1 lt2 lt3 lt4 lt5 lt6

theorem FlO.alloc {w : World} {base : Nat} {v : Value} {l : List Fl} (h : FlO w base v l) (o : Obj) : FlO (w.alloc o) base v l := h.below ((Below.refl _ _).alloc (Nat.le_refl _) _)
def FiRel (w : World) (l : List Fl) (ov iv : Value) (wr : World) : Prop := ∃ i, i ≤ l.length ∧ iv = .int .i64 (i : Nat) ∧ FlO wr w.heap.size ov (l.take i) ∧ Below w.heap.size w wr
def FiPost (w : World) (l : List Fl) (e : Ending) (w' : World) : Prop := ∃ v, e = .returned v ∧ FlO w' w.heap.size v l ∧ Below w.heap.size w w'
set_option maxHeartbeats 4000000 in
set_option maxRecDepth 100000 in
theorem files_ref (w : World) (A : Option Addr) (c : Nat) (l : List Fl) (hf : FlAt w A c l) (hl : l.length ≤ 1048576) (hd : ∀ f ∈ l, f.2.length ≤ 1048576) :
    Calls Tryd.prog 12 #[.slice A l.length c] w (FiPost w l) := by
  have Hf := Lib.hid hf
  have Hd := Lib.hid hd
  clear hf hd
  have H0 : Hid (FiRel w l (.slice none 0 0) (.int .i64 0) w) := Lib.hid ⟨0, by omega, rfl, by simpa using FlO.nil _ _, Below.refl _ _⟩
  go_enter Tryd.func12, Tryd.ntmps12
  go_wp2_with fail
  go_loopw [3, 4] (fun ov iv wr => FiRel w l ov iv wr) (fun _ iv _ => l.length - (intOf iv).toNat)
  case atStart => exact H0.out
  case round =>
    clear H0
    obtain ⟨i, hi, rfl, hfl, hB⟩ := hrel
    obtain ⟨ov, hov⟩ : ∃ ov, ov = u3 := ⟨_, rfl⟩
    subst hov
    have hir : (0 : Int) ≤ i := by omega
    have Hfl := Lib.hid hfl
    have HB := Lib.hid hB
    clear hfl hB
    by_cases hlt : i < l.length
    · have hlI : (i : Int) < l.length := by omega
      obtain ⟨bb, oo, Ai, ci, rfl, f1, f2, hbs⟩ := Hf.out.at_ hlt
      have hpd := Hd.out _ (List.mem_of_getElem? (getD_some hlt))
      have Htk := Lib.hid (take_getD hlt)
      have Hcell := Lib.hid (fun w' (h : Below w.heap.size w w') => And.intro (Cells.of_below h _ _ f1) (And.intro (Cells.of_below h _ _ f2) (Bs_below hbs h)))
      clear f1 f2 hbs
      generalize l.getD i noFl = p at *
      obtain ⟨e0, e1, e2⟩ := Hcell.out _ HB.out
      have E2 := Lib.hid e2
      clear e2
      go_wp2_with fail
      with_reducible refine g_mix [(0, none), (1, none), (2, none), (3, none), (4, none), (5, none), (6, none), (7, none), (8, none), (9, none), (10, none), (11, some false), (12, none), (13, some false), (14, some false), (15, none)] (fun w' => w'.cell? ⟨bb, oo + i * 2, none⟩ = some (.string p.1) ∧ w'.cell? ⟨bb, oo + i * 2 + 1, none⟩ = some (.slice Ai p.2.length ci)) (by kernel_rfl) (by kernel_rfl) ?_
      intro OPS
      simp only [mixOf, nthO, consO]
      iterate 11 ((with_reducible refine m_val (v := ?_) ?_ ?_ ?_); rotate_left; (rintro _ ⟨h1, h2⟩; go_simp; first | done | rfl | (constructor <;> rfl)); exact ⟨e0, e1⟩)
      with_reducible refine m_one ?_
      refine l_call ?_ ((bytes_any p.2 Ai ci wr.drew hpd (E2.out.keep fun _ _ h => h)).mono ?_)
      · go_simp
      rintro e w1 ⟨v1, rfl, hown, hbel⟩
      have hbel' : Below wr.heap.size wr w1 := ⟨hbel.os, hbel.tape, hbel.output, hbel.size, hbel.block⟩
      have HB1 := Lib.hid (HB.out.trans (hbel'.mono HB.out.size))
      have Hfl1 := Lib.hid (Hfl.out.below hbel')
      have Hown : Hid (OwnB w1 w.heap.size v1 p.2) := Lib.hid (own_base hown HB.out.size)
      obtain ⟨Av, cv, rfl, _, _, _, _⟩ := own_form Hown.out
      clear e0 e1 hown hbel hbel'
      obtain ⟨e0, e1, e2⟩ := Hcell.out _ HB1.out
      clear e2
      refine ⟨_, rfl, ?_⟩
      refine m_keep ⟨e0, e1⟩ ?_
      iterate 1 ((with_reducible refine m_val (v := ?_) ?_ ?_ ?_); rotate_left; (rintro _ ⟨h1, h2⟩; go_simp; first | done | rfl | (constructor <;> rfl)); exact ⟨e0, e1⟩)
      with_reducible refine m_one ?_
      iterate 1 (with_reducible refine l_val (v := ?_) (w' := ?_) ?_ ?_; rotate_left 2; (go_simp; first | done | rfl | (constructor <;> rfl)))
      refine m_keep ⟨Cells.alloc _ _ _ _ e0, Cells.alloc _ _ _ _ e1⟩ ?_
      with_reducible refine m_one ?_
      refine append_file rfl (.tmp 11) (.tmp 24) rfl w.heap.size ov (l.take i) ?_ (Hfl1.out.alloc _) w1.heap.size p.1 (.slice Av p.2.length cv) p.2 ?_ (heap_alloc_new _ _) (Hown.out.alloc _) (by rw [List.length_take]; omega) (by have := HB1.out.size; simp; omega) ?_
      · simp [Act.eval, Act.put]
      · simp [Act.eval, Act.put]
      intro ov' w2 hfo hgrow hb2
      have HB2 := Lib.hid ((HB1.out.alloc HB1.out.size _).trans hb2)
      rw [← Htk.out] at hfo
      have Hfin : Hid (FiRel w l ov' (.int .i64 ((i : Int) + 1)) w2) := Lib.hid ⟨i + 1, by omega, by simp, hfo, HB2.out⟩
      clear hfo hgrow hb2 e0 e1
      obtain ⟨e0, e1, e2⟩ := Hcell.out _ HB2.out
      clear e2
      refine m_keep ⟨e0, e1⟩ ?_
      iterate 1 ((with_reducible refine m_val (v := ?_) ?_ ?_ ?_); rotate_left; (rintro _ ⟨h1, h2⟩; go_simp; first | done | rfl | (constructor <;> rfl)); exact ⟨e0, e1⟩)
      with_reducible refine m_end ?_
      simp only [Act.put, List.setIfInBounds_toArray, List.set_cons_zero, List.set_cons_succ]
      go_wp2_with fail
      go_roundw
      case rel => exact Hfin.out
      case measure => simp [intOf]; omega
    · have hlI : ¬ (i : Int) < l.length := by omega
      obtain rfl : i = l.length := by omega
      rw [List.take_length] at Hfl
      go_wp2_with fail
      go_ret
      exact ⟨_, rfl, Hfl.out, HB.out⟩
end Go.Proofs.YtdmladdpbdcpjaaDoor
namespace Go.Proofs.YtdmladdpbdcpjaaDoor
open Go.RowKit

set_option linter.unusedSimpArgs false

attribute [local go_sem] lt1 lt2 lt3 lt4 lt5 lt6

theorem prefix_ref (w : World) (p v : ByteArray) (hp : p.size ≤ 1048576) (hv : v.size ≤ 1048576) :
    Calls Tryd.prog 25 #[.agg #[.string p, .string v]] w fun e w' => e = .returned (.string (preOf p v)) ∧ Below w.heap.size w w' := by
  have hq1 : ¬ 9223372036854775807 < p.size + 1 := by omega
  have hq2 : ¬ 9223372036854775807 < p.size + 1 + v.size := by omega
  have hq3 : ¬ 9223372036854775807 < p.size + 1 + v.size + 1 := by omega
  go_enter Tryd.func25, Tryd.ntmps25
  go_wp2_with fail
  go_ret
  exact ⟨rfl, (Below.refl _ _).alloc (Nat.le_refl _) _⟩
theorem len_data (s : ByteArray) : s.data.toList.length = s.size := rfl
theorem pre_len {s p : ByteArray} (h : Lib.hasPrefix s.data.toList p.data.toList = true) : p.size ≤ s.size := by
  have h1 := (List.isPrefixOf_iff_prefix.1 h).length_le
  rwa [len_data, len_data] at h1
theorem pre_take {s p : ByteArray} : ((s.extract 0 p.size).toList == p.toList) = Lib.hasPrefix s.data.toList p.data.toList := by
  rw [toList_toL, toList_toL]
  have e : toL (s.extract 0 p.size) = s.data.toList.take p.size := by
    show (s.extract 0 p.size).data.toList = _
    simp
  rw [e, Bool.eq_iff_iff, beq_iff_eq]
  unfold Lib.hasPrefix
  rw [List.isPrefixOf_iff_prefix, List.prefix_iff_eq_take, len_data]
  exact eq_comm
theorem behind_extract {P s : ByteArray} (h : Lib.hasPrefix s.data.toList P.data.toList = true) : behind P s = s.extract P.size s.size := by
  have e := Lib.extract_to_end s P.size
  unfold behind Lib.trimPrefix
  rw [if_pos h, len_data, ← e]
theorem behind_empty {P s : ByteArray} (h : Lib.hasPrefix s.data.toList P.data.toList = true) : (behind P s).toList.isEmpty = decide (s.size = P.size) := by
  have hl := pre_len h
  have e := Lib.extract_to_end s P.size
  rw [behind_extract h, toList_toL]
  show ((s.extract P.size s.size).data.toList).isEmpty = _
  rw [e, Bool.eq_iff_iff, List.isEmpty_iff, List.drop_eq_nil_iff, len_data, decide_eq_true_iff]
  omega
theorem begins_ref (w : World) (s p : ByteArray) :
    Calls Tryd.prog 54 #[.string s, .string p] w fun e w' => e = .returned (.bool (Lib.hasPrefix s.data.toList p.data.toList)) ∧ w = w' := by
  by_cases h : p.size ≤ s.size
  · have hI : (p.size : Int) ≤ s.size := by omega
    have he := pre_take (s := s) (p := p)
    rw [← he]
    clear he
    go_enter Tryd.func54, Tryd.ntmps54
    go_wp2_with fail
    go_ret
    exact ⟨rfl, rfl⟩
  · have hI : ¬ (p.size : Int) ≤ s.size := by omega
    have hn : Lib.hasPrefix s.data.toList p.data.toList = false := by
      rw [Bool.eq_false_iff]
      exact fun hh => h (pre_len hh)
    rw [hn]
    go_enter Tryd.func54, Tryd.ntmps54
    go_wp2_with fail
    go_ret
    exact ⟨rfl, rfl⟩
theorem FlO.others {w w' : World} {base : Nat} {v : Value} {l : List Fl} (h : FlO w base v l) (hg : w.grownBy w' v.ownBlock) {k : Nat} {cs : Array Value} {t : TypeId} (ht : t ≠ 46) (hk : w.heap[k]? = some (.cells cs t (0, 0))) : w'.heap[k]? = some (.cells cs t (0, 0)) := by
  obtain ⟨_, _, h2⟩ := h
  refine (hg.block k (lt_of_heap hk) fun e => ?_).trans hk
  obtain ⟨_, cur', hcur⟩ := own_blk h2 _ e.symm
  rw [hk] at hcur
  simp only [Option.some.injEq, Obj.cells.injEq] at hcur
  exact ht hcur.2.1
/-! ### taken off -/
def SrRel (w : World) (l : List Fl) (P : ByteArray) (ov iv : Value) (wr : World) : Prop :=
  ∃ i out, i ≤ l.length ∧ iv = .int .i64 (i : Nat) ∧ stripP P l = (stripP P (l.drop i)).map (fun k => out ++ k) ∧ out.length = i ∧ FlO wr w.heap.size ov out ∧ Below w.heap.size w wr
/-- what Strip says: the files, the error -/
def spOut (P : ByteArray) (l : List Fl) : List Fl := (stripP P l).getD []
def spErr (P : ByteArray) (l : List Fl) : Nat := if (stripP P l).isSome then 0 else 1
def SqPost (w : World) (l : List Fl) (P : ByteArray) (e : Ending) (w' : World) : Prop :=
  ∃ x, e = .returned (.tuple #[x, .int .i64 (spErr P l : Nat)]) ∧ FlOwn w' w.heap.size x (spOut P l) ∧ Below w.heap.size w w'
theorem sq_of {w w' : World} {l : List Fl} {p v : ByteArray} {e : Ending} (h : SpPost w l p v e w') : SqPost w l (preOf p v) e w' := by
  obtain ⟨hb, h⟩ := h
  unfold SqPost spErr spOut
  cases hs : stripP (preOf p v) l with
  | none => rw [hs] at h; exact ⟨_, h, FlOwn.nil _ _, hb⟩
  | some out =>
    rw [hs] at h
    obtain ⟨x, h1, h2⟩ := h
    exact ⟨x, h1, h2.own, hb⟩
set_option maxHeartbeats 4000000 in
set_option maxRecDepth 100000 in
theorem strip_ref (w : World) (A : Option Addr) (c : Nat) (l : List Fl) (p v : ByteArray) (hf : FlAt w A c l) (hl : l.length ≤ 1048576) (hp : p.size ≤ 1048576) (hv : v.size ≤ 1048576) (hs : ∀ f ∈ l, f.1.size ≤ 1048576) (hd : ∀ f ∈ l, f.2.length ≤ 1048576) :
    Calls Tryd.prog 18 #[.slice A l.length c, .agg #[.string p, .string v]] w (SqPost w l (preOf p v)) := by
  have Hf := Lib.hid hf
  have Hs := Lib.hid hs
  have Hd := Lib.hid hd
  clear hf hs hd
  have hPs := preOf_size p v
  have Hpre := Lib.hid (fun w' => prefix_ref w' p v hp hv)
  obtain ⟨P, hP⟩ : ∃ P, P = preOf p v := ⟨_, rfl⟩
  rw [← hP] at hPs Hpre ⊢
  have hPb : P.size ≤ 2097154 := by omega
  go_enter Tryd.func18, Tryd.ntmps18
  go_wp2_with fail
  refine (Hpre.out _).mono ?_
  rintro e w1 ⟨rfl, hb⟩
  have hB1 : Below w.heap.size w w1 := ((Below.refl _ _).alloc (Nat.le_refl _) _).trans (hb.mono (by simp))
  have H0 : Hid (SrRel w l P (.slice none 0 0) (.int .i64 0) w1) := Lib.hid ⟨0, [], by omega, rfl, by simp, rfl, FlO.nil _ _, hB1⟩
  clear hb hB1 hPs hP Hpre
  go_wp2_with fail
  go_loopw [6, 8] (fun ov iv wr => SrRel w l P ov iv wr) (fun _ iv _ => l.length - (intOf iv).toNat)
  case atStart => exact H0.out
  case round =>
    clear H0
    obtain ⟨i, out, hi, rfl, hst, hol, hfo, hB⟩ := hrel
    obtain ⟨ov, hov⟩ : ∃ ov, ov = u6 := ⟨_, rfl⟩
    subst hov
    have hir : (0 : Int) ≤ i := by omega
    have Hst := Lib.hid hst
    have Hol := Lib.hid hol
    have Hfo := Lib.hid hfo
    have HB := Lib.hid hB
    clear hst hol hfo hB
    by_cases hlt : i < l.length
    · have hlI : (i : Int) < l.length := by omega
      obtain ⟨bb, oo, Ai, ci, rfl, f1, f2, hbs⟩ := Hf.out.at_ hlt
      have hfs := Hs.out _ (List.mem_of_getElem? (getD_some hlt))
      have hfd := Hd.out _ (List.mem_of_getElem? (getD_some hlt))
      have Hdr := Lib.hid (drop_getF hlt)
      have Hcell := Lib.hid (fun w' (h : Below w.heap.size w w') => And.intro (Cells.of_below h _ _ f1) (And.intro (Cells.of_below h _ _ f2) (Bs_below hbs h)))
      clear f1 f2 hbs
      generalize l.getD i noFl = f at *
      obtain ⟨nm, dat⟩ := f
      dsimp only at hfs hfd Hcell
      obtain ⟨e0, e1, e2⟩ := Hcell.out _ HB.out
      have E2 := Lib.hid e2
      clear e2
      have Hnone : Hid (stripB P nm = false → SqPost w l P (.returned (.tuple #[.slice none 0 0, .int .i64 1])) wr) := Lib.hid fun h => by
        have hn : stripP P l = none := by rw [Hst.out, Hdr.out, stripP, if_neg (by rw [h]; simp)]; rfl
        unfold SqPost spErr spOut
        rw [hn]
        exact ⟨_, rfl, FlOwn.nil _ _, HB.out⟩
      go_wp2_with fail
      refine (begins_ref wr nm P).mono ?_
      rintro e w2 ⟨rfl, rfl⟩
      cases hh : Lib.hasPrefix nm.data.toList P.data.toList with
      | false =>
        have Hfin := Lib.hid (Hnone.out (by rw [stripB, hh]; rfl))
        clear Hnone
        go_wp2_with fail
        go_ret2
        exact Hfin.out
      | true =>
        have hle := pre_len hh
        have hemp := behind_empty hh
        by_cases hsz : nm.size = P.size
        · have hszI : (nm.size : Int) = P.size := by omega
          have hszb : ((nm.size : Int) == P.size) = true := by rw [beq_iff_eq]; exact hszI
          have Hfin := Lib.hid (Hnone.out (by rw [stripB, hh, hemp, decide_eq_true hsz]; rfl))
          clear Hnone hemp hsz hszI
          go_wp2_with fail
          go_ret2
          exact Hfin.out
        · have hszb : ((nm.size : Int) == P.size) = false := by rw [beq_eq_false_iff_ne]; omega
          have Hyes : Hid (stripB P nm = true) := Lib.hid (by rw [stripB, hh, hemp, decide_eq_false hsz]; rfl)
          have Hbe := Lib.hid (behind_extract hh)
          have hleI : (P.size : Int) ≤ nm.size := by omega
          clear Hnone hemp hsz hh
          go_wp2_with fail
          with_reducible refine g_mix [(0, none), (1, none), (2, none), (3, none), (4, none), (5, none), (6, none), (7, none), (8, none), (9, none), (10, none), (11, none), (12, none), (13, none), (14, some false), (15, none), (16, some false), (17, some false), (18, none)] (fun w' => w'.cell? ⟨bb, oo + i * 2, none⟩ = some (.string nm) ∧ w'.cell? ⟨bb, oo + i * 2 + 1, none⟩ = some (.slice Ai dat.length ci)) (by kernel_rfl) (by kernel_rfl) ?_
          intro OPS
          simp only [mixOf, nthO, consO]
          iterate 14 ((with_reducible refine m_val (v := ?_) ?_ ?_ ?_); rotate_left; (rintro _ ⟨h1, h2⟩; go_simp; first | done | rfl | (constructor <;> rfl)); exact ⟨e0, e1⟩)
          with_reducible refine m_one ?_
          refine l_call ?_ ((bytes_any dat Ai ci wr.drew hfd (E2.out.keep fun _ _ h => h)).mono ?_)
          · go_simp
          rintro e w2 ⟨v1, rfl, hown, hbel⟩
          have hbel' : Below wr.heap.size wr w2 := ⟨hbel.os, hbel.tape, hbel.output, hbel.size, hbel.block⟩
          have HB2 := Lib.hid (HB.out.trans (hbel'.mono HB.out.size))
          have Hfo2 := Lib.hid (Hfo.out.below hbel')
          have Hown : Hid (OwnB w2 w.heap.size v1 dat) := Lib.hid (own_base hown HB.out.size)
          obtain ⟨Av, cv, rfl, _, _, _, _⟩ := own_form Hown.out
          clear e0 e1 hown hbel hbel'
          obtain ⟨e0, e1, e2⟩ := Hcell.out _ HB2.out
          clear e2
          obtain ⟨T, hT⟩ : ∃ T, T = nm.extract P.size nm.size := ⟨_, rfl⟩
          rw [← hT]
          rw [← hT] at Hbe
          clear hT
          refine ⟨_, rfl, ?_⟩
          refine m_keep ⟨e0, e1⟩ ?_
          iterate 1 ((with_reducible refine m_val (v := ?_) ?_ ?_ ?_); rotate_left; (rintro _ ⟨h1, h2⟩; go_simp; first | done | rfl | (constructor <;> rfl)); exact ⟨e0, e1⟩)
          with_reducible refine m_one ?_
          iterate 1 (with_reducible refine l_val (v := ?_) (w' := ?_) ?_ ?_; rotate_left 2; (go_simp; first | done | rfl | (constructor <;> rfl)))
          refine m_keep ⟨Cells.alloc _ _ _ _ e0, Cells.alloc _ _ _ _ e1⟩ ?_
          with_reducible refine m_one ?_
          refine append_file rfl (.tmp 36) (.tmp 52) rfl w.heap.size ov out ?_ (Hfo2.out.alloc _) w2.heap.size T (.slice Av dat.length cv) dat ?_ (heap_alloc_new _ _) (Hown.out.alloc _) (by rw [Hol.out]; omega) (by have := HB2.out.size; simp; omega) ?_
          · simp [Act.eval, Act.put]
          · simp [Act.eval, Act.put]
          intro ov' w3 hfo hgrow hb3
          have HB3 := Lib.hid ((HB2.out.alloc HB2.out.size _).trans hb3)
          have Hfin : Hid (SrRel w l P ov' (.int .i64 ((i : Int) + 1)) w3) := Lib.hid ⟨i + 1, out ++ [(T, dat)], by omega, by simp, by
            have h1 := Hst.out
            rw [Hdr.out, stripP, if_pos Hyes.out, Hbe.out] at h1
            rw [h1, Option.map_map]
            congr 1
            funext k
            simp, by rw [List.length_append, Hol.out]; rfl, hfo, HB3.out⟩
          clear hfo hgrow hb3 e0 e1
          obtain ⟨e0, e1, e2⟩ := Hcell.out _ HB3.out
          clear e2
          refine m_keep ⟨e0, e1⟩ ?_
          iterate 1 ((with_reducible refine m_val (v := ?_) ?_ ?_ ?_); rotate_left; (rintro _ ⟨h1, h2⟩; go_simp; first | done | rfl | (constructor <;> rfl)); exact ⟨e0, e1⟩)
          with_reducible refine m_end ?_
          simp only [Act.put, List.setIfInBounds_toArray, List.set_cons_zero, List.set_cons_succ]
          go_wp2_with fail
          go_roundw
          case rel => exact Hfin.out
          case measure => simp [intOf]; omega
    · have hlI : ¬ (i : Int) < l.length := by omega
      obtain rfl : i = l.length := by omega
      have Hfin : Hid (SqPost w l P (.returned (.tuple #[ov, .int .i64 0])) wr) := Lib.hid (by
        have h1 := Hst.out
        rw [List.drop_length] at h1
        have h2 : stripP P l = some out := by rw [h1]; simp [stripP]
        unfold SqPost spErr spOut
        rw [h2]
        exact ⟨_, rfl, Hfo.out.own, HB.out⟩)
      go_wp2_with fail
      go_ret2
      exact Hfin.out
/-! ### laid ahead -/
def ArfRel (w : World) (gm : Nat) (l : List Fl) (p v : ByteArray) (ov iv : Value) (wr : World) : Prop :=
  ∃ i, i ≤ l.length ∧ iv = .int .i64 (i : Nat) ∧ FlO wr w.heap.size ov ((l.take i).map (addP p v)) ∧ Below w.heap.size w wr ∧ wr.heap[gm]? = some (.cells #[.string p, .string v] 24 (0, 0))
def ArfPost (w : World) (l : List Fl) (p v : ByteArray) (e : Ending) (w' : World) : Prop :=
  ∃ x, e = .returned x ∧ FlOwn w' w.heap.size x (l.map (addP p v)) ∧ Below w.heap.size w w'
set_option maxHeartbeats 4000000 in
set_option maxRecDepth 100000 in
theorem add_ref (w : World) (A : Option Addr) (c : Nat) (l : List Fl) (p v : ByteArray) (hf : FlAt w A c l) (hl : l.length ≤ 1048576) (hp : p.size ≤ 1048576) (hv : v.size ≤ 1048576) (hs : ∀ f ∈ l, f.1.size ≤ 1048576) (hd : ∀ f ∈ l, f.2.length ≤ 1048576) :
    Calls Tryd.prog 22 #[.slice A l.length c, .agg #[.string p, .string v]] w (ArfPost w l p v) := by
  have Hf := Lib.hid hf
  have Hs := Lib.hid hs
  have Hd := Lib.hid hd
  clear hf hs hd
  have H0 : Hid (ArfRel w w.heap.size l p v (.slice none 0 0) (.int .i64 0) (w.alloc (.cells #[.string p, .string v] 24))) := Lib.hid ⟨0, by omega, rfl, FlO.nil _ _, (Below.refl _ _).alloc (Nat.le_refl _) _, heap_alloc_new _ _⟩
  go_enter Tryd.func22, Tryd.ntmps22
  go_wp2_with fail
  obtain ⟨gm, hgm⟩ : ∃ gm, gm = w.heap.size := ⟨_, rfl⟩
  have H0 : Hid (ArfRel w gm l p v (.slice none 0 0) (.int .i64 0) (w.alloc (.cells #[.string p, .string v] 24))) := by rw [hgm]; exact H0
  rw [← hgm]
  clear hgm
  go_loopw [5, 6] (fun ov iv wr => ArfRel w gm l p v ov iv wr) (fun _ iv _ => l.length - (intOf iv).toNat)
  case atStart => exact H0.out
  case round =>
    clear H0
    obtain ⟨i, hi, rfl, hfo, hB, hm⟩ := hrel
    obtain ⟨ov, hov⟩ : ∃ ov, ov = u5 := ⟨_, rfl⟩
    subst hov
    have hir : (0 : Int) ≤ i := by omega
    have Hfo := Lib.hid hfo
    have HB := Lib.hid hB
    have HM := Lib.hid hm
    clear hfo hB
    by_cases hlt : i < l.length
    · have hlI : (i : Int) < l.length := by omega
      obtain ⟨bb, oo, Ai, ci, rfl, f1, f2, hbs⟩ := Hf.out.at_ hlt
      have hfs := Hs.out _ (List.mem_of_getElem? (getD_some hlt))
      have hfd := Hd.out _ (List.mem_of_getElem? (getD_some hlt))
      have Htk := Lib.hid (take_getF hlt)
      have Hcell := Lib.hid (fun w' (h : Below w.heap.size w w') => And.intro (Cells.of_below h _ _ f1) (And.intro (Cells.of_below h _ _ f2) (Bs_below hbs h)))
      clear f1 f2 hbs
      generalize l.getD i noFl = f at *
      obtain ⟨nm, dat⟩ := f
      dsimp only at hfs hfd Hcell
      obtain ⟨e0, e1, e2⟩ := Hcell.out _ HB.out
      have Em := Lib.hid (fun (w' : World) (h : w'.heap[gm]? = some (.cells #[.string p, .string v] 24 (0, 0))) => And.intro (show w'.cell? ⟨gm, 0, none⟩ = some (.string p) from (blk_cells h).1 0) (show w'.cell? ⟨gm, 1, none⟩ = some (.string v) from (blk_cells h).1 1))
      obtain ⟨e3, e4⟩ := Em.out _ hm
      have hps := preOf_size p v
      have hq : ¬ 9223372036854775807 < p.size + v.size + 2 + nm.size := by omega
      have Hps := Lib.hid hps
      clear e2 hm hps
      go_wp2_with fail
      with_reducible refine g_mix [(0, none), (1, none), (3, none), (4, none), (5, none), (6, none), (7, none), (9, none), (10, none), (11, none), (12, none), (13, none), (2, some false), (8, none), (14, some false), (15, none), (16, some false), (17, some false), (18, none)] (fun w' => (w'.cell? ⟨bb, oo + i * 2, none⟩ = some (.string nm) ∧ w'.cell? ⟨bb, oo + i * 2 + 1, none⟩ = some (.slice Ai dat.length ci)) ∧ w'.cell? ⟨gm, 0, none⟩ = some (.string p) ∧ w'.cell? ⟨gm, 1, none⟩ = some (.string v)) (by kernel_rfl) (by kernel_rfl) ?_
      intro OPS
      simp only [mixOf, nthO, consO]
      iterate 12 ((with_reducible refine m_val (v := ?_) ?_ ?_ ?_); rotate_left; (rintro _ ⟨⟨h1, h2⟩, h3, h4⟩; go_simp; first | done | rfl | (constructor <;> rfl)); exact ⟨⟨e0, e1⟩, e3, e4⟩)
      with_reducible refine m_one ?_
      refine l_call ?_ ((prefix_ref wr.drew p v hp hv).mono ?_)
      · go_simp
      rintro e w2 ⟨rfl, hbel⟩
      have hbel' : Below wr.heap.size wr w2 := ⟨hbel.os, hbel.tape, hbel.output, hbel.size, hbel.block⟩
      have HB2 := Lib.hid (HB.out.trans (hbel'.mono HB.out.size))
      have Hfo2 := Lib.hid (Hfo.out.below hbel')
      have HM2 := Lib.hid ((hbel'.block _ (lt_of_heap HM.out)).trans HM.out)
      clear e0 e1 e3 e4 hbel hbel'
      obtain ⟨e0, e1, e2⟩ := Hcell.out _ HB2.out
      obtain ⟨e3, e4⟩ := Em.out _ HM2.out
      have E2 := Lib.hid e2
      clear e2
      obtain ⟨P, hP⟩ : ∃ P, P = preOf p v := ⟨_, rfl⟩
      rw [← hP]
      have hPs : P.size = p.size + v.size + 2 := by rw [hP]; exact Hps.out
      have HP := Lib.hid hP
      have hq : ¬ 9223372036854775807 < P.size + nm.size := by omega
      clear hP hPs
      refine ⟨_, rfl, ?_⟩
      refine m_keep ⟨⟨e0, e1⟩, e3, e4⟩ ?_
      iterate 1 ((with_reducible refine m_val (v := ?_) ?_ ?_ ?_); rotate_left; (rintro _ ⟨⟨h1, h2⟩, h3, h4⟩; go_simp; first | done | rfl | (constructor <;> rfl)); exact ⟨⟨e0, e1⟩, e3, e4⟩)
      with_reducible refine m_one ?_
      refine l_call ?_ ((bytes_any dat Ai ci w2 hfd E2.out).mono ?_)
      · go_simp
      rintro e w3 ⟨v1, rfl, hown, hbel⟩
      have HB3 := Lib.hid (HB2.out.trans (hbel.mono HB2.out.size))
      have Hfo3 := Lib.hid (Hfo2.out.below hbel)
      have HM3 := Lib.hid ((hbel.block _ (lt_of_heap HM2.out)).trans HM2.out)
      have Hown : Hid (OwnB w3 w.heap.size v1 dat) := Lib.hid (own_base hown HB2.out.size)
      obtain ⟨Av, cv, rfl, _, _, _, _⟩ := own_form Hown.out
      clear e0 e1 e3 e4 hown hbel
      obtain ⟨e0, e1, e2⟩ := Hcell.out _ HB3.out
      obtain ⟨e3, e4⟩ := Em.out _ HM3.out
      clear e2
      refine ⟨_, rfl, ?_⟩
      refine m_keep ⟨⟨e0, e1⟩, e3, e4⟩ ?_
      iterate 1 ((with_reducible refine m_val (v := ?_) ?_ ?_ ?_); rotate_left; (rintro _ ⟨⟨h1, h2⟩, h3, h4⟩; go_simp; first | done | rfl | (constructor <;> rfl)); exact ⟨⟨e0, e1⟩, e3, e4⟩)
      with_reducible refine m_one ?_
      iterate 1 (with_reducible refine l_val (v := ?_) (w' := ?_) ?_ ?_; rotate_left 2; (go_simp; first | done | rfl | (constructor <;> rfl)))
      refine m_keep ⟨⟨Cells.alloc _ _ _ _ e0, Cells.alloc _ _ _ _ e1⟩, Cells.alloc _ _ _ _ e3, Cells.alloc _ _ _ _ e4⟩ ?_
      with_reducible refine m_one ?_
      have hMa : (w3.alloc (.cells #[.string (P ++ nm), .slice Av dat.length cv] 46)).heap[gm]? = some (.cells #[.string p, .string v] 24 (0, 0)) := (((Below.refl w3.heap.size w3).alloc (Nat.le_refl _) _).block _ (lt_of_heap HM3.out)).trans HM3.out
      refine append_file rfl (.tmp 13) (.tmp 29) rfl w.heap.size ov ((l.take i).map (addP p v)) ?_ (Hfo3.out.alloc _) w3.heap.size (P ++ nm) (.slice Av dat.length cv) dat ?_ (heap_alloc_new _ _) (Hown.out.alloc _) (by rw [List.length_map, List.length_take]; omega) (by have := HB3.out.size; simp; omega) ?_
      · simp [Act.eval, Act.put]
      · simp [Act.eval, Act.put]
      intro ov' w4 hfo hgrow hb4
      have HB4 := Lib.hid ((HB3.out.alloc HB3.out.size _).trans hb4)
      have HM4 := Lib.hid ((Hfo3.out.alloc _).others hgrow (by decide) hMa)
      have Hfin : Hid (ArfRel w gm l p v ov' (.int .i64 ((i : Int) + 1)) w4) := Lib.hid ⟨i + 1, by omega, by simp, by
        rw [Htk.out, List.map_append]
        rw [HP.out] at hfo
        exact hfo, HB4.out, HM4.out⟩
      clear hfo hgrow hb4 e0 e1 e3 e4 hMa
      obtain ⟨e0, e1, e2⟩ := Hcell.out _ HB4.out
      obtain ⟨e3, e4⟩ := Em.out _ HM4.out
      clear e2
      refine m_keep ⟨⟨e0, e1⟩, e3, e4⟩ ?_
      iterate 1 ((with_reducible refine m_val (v := ?_) ?_ ?_ ?_); rotate_left; (rintro _ ⟨⟨h1, h2⟩, h3, h4⟩; go_simp; first | done | rfl | (constructor <;> rfl)); exact ⟨⟨e0, e1⟩, e3, e4⟩)
      with_reducible refine m_end ?_
      simp only [Act.put, List.setIfInBounds_toArray, List.set_cons_zero, List.set_cons_succ]
      clear hq
      go_wp2_with fail
      go_roundw
      case rel => exact Hfin.out
      case measure => simp [intOf]; omega
    · have hlI : ¬ (i : Int) < l.length := by omega
      obtain rfl : i = l.length := by omega
      rw [List.take_length] at Hfo
      go_wp2_with fail
      go_ret
      exact ⟨_, rfl, Hfo.out.own, HB.out⟩
end Go.Proofs.YtdmladdpbdcpjaaDoor
