/-
  The package's heads: an archive's heads, read. (Printed by wip/abexp.py.)
-/
import Derived.Test.YtdmladdpbdcpjaaDoorArkUnA
import Derived.Lib.SlBytesConst
import Derived.Test.YtdmladdpbdcpjaaDoorArkFirst
namespace Go.Proofs.YtdmladdpbdcpjaaDoor
open Go.RowKit

set_option linter.unusedSimpArgs false

attribute [local go_sem] lt1 lt2 lt3 lt4 lt5 lt6

/-- an entry's cells -/
def CEn (w : World) (c : List Value) (e : Fl × Nat) : Prop := ∃ Ai ci, c = [.string e.1.1, .slice Ai e.1.2.length ci, .int .i64 (e.2 : Nat)] ∧ Bs w Ai ci e.1.2
theorem CEn.keep {w w' : World} (hc : Cells w w') {c : List Value} {e : Fl × Nat} (h : CEn w c e) : CEn w' c e := by
  obtain ⟨Ai, ci, h1, h2⟩ := h
  exact ⟨Ai, ci, h1, h2.keep hc⟩
theorem CEn.len {w : World} {c : List Value} {e : Fl × Nat} (h : CEn w c e) : c.length = 3 := by
  obtain ⟨_, _, rfl, _⟩ := h
  rfl
def EnOwn (w0 w : World) (base : Nat) (v : Value) (es : List (Fl × Nat)) : Prop := ∃ cs, All2 (CEn w0) cs es ∧ w.ownsRow base 89 3 v es.length cs.flatten
theorem EnOwn.nil (w0 w : World) (base : Nat) : EnOwn w0 w base (.slice none 0 0) [] := ⟨[], trivial, World.ownsRow_nil _ _ _ _⟩
theorem readH_short {r : List UInt8} (hp : r.take 4 = [80, 75, 3, 4]) (h : r.length < headL r) : readH r = none := by rw [readH, if_pos hp, dif_pos h]
theorem readH_step {r : List UInt8} (hp : r.take 4 = [80, 75, 3, 4]) (h : ¬ r.length < headL r) : readH r = (readH (r.drop (headL r))).map fun l => headF r :: l := by rw [readH, if_pos hp, dif_neg h]
theorem pre4 (r : List UInt8) : ([80, 75, 3, 4] : List UInt8).isPrefixOf r = decide (r.take 4 = [80, 75, 3, 4]) := by
  rw [Bool.eq_iff_iff, List.isPrefixOf_iff_prefix, List.prefix_iff_eq_take, decide_eq_true_iff]
  exact eq_comm
theorem Bs.front {w : World} {A : Option Addr} {c m : Nat} {l : List UInt8} (h : Bs w A c l) (hm : m ≤ l.length) : Bs w A c (l.take m) := by
  have hl := h.le
  have e : (l.take m).length = m := by simp; omega
  refine ⟨by simp [u8s], fun hA => ?_, by omega, h.big, fun hn => ?_⟩
  · have := h.nil hA
    exact ⟨by omega, this.2⟩
  · rw [e] at hn
    obtain ⟨b2, o2, he, hx⟩ := h.cells (by omega)
    refine ⟨b2, o2, he, fun j hj => ?_⟩
    rw [e] at hj
    rw [hx j (by omega), u8s_at (by omega), u8s_at (by omega)]
    simp [List.getD_eq_getElem?_getD, show j < m by omega]
theorem slice_hi (A : Option Addr) (n c h : Nat) (h2 : h ≤ c) (w : World) : (Instr.slice 28 (.slice A n c) none (some (.int .i64 (h : Int))) none).run Tryd.prog w = .ok (.slice A h c) w := by
  have e : Tryd.prog.elem 28 = 5 := by kernel_rfl
  have ht : Tryd.prog.underlying 28 = some (.slice (Tryd.prog.elem 28)) := by rw [e]; exact Tryd.underlying28
  obtain ⟨i0, hi0, hz0, hz1, hz2⟩ := info_parts infoU8
  rw [run_slice_h (w := w) (ht := ht) (kh := .i64) (h0 := by omega) (h2 := by omega), e]
  simp [sizeOf, typeInfo, hi0, hz1, sliced]
  intro _
  cases A <;> simp [Addr.add]
theorem slice_lh (A : Option Addr) (n c l m : Nat) (h2 : l + m ≤ c) (w : World) : (Instr.slice 28 (.slice A n c) (some (.int .i64 (l : Int))) (some (.int .i64 ((l : Int) + (m : Int)))) none).run Tryd.prog w = .ok (.slice (cutA A c l) m (c - l)) w := by
  have e : Tryd.prog.elem 28 = 5 := by kernel_rfl
  have ht : Tryd.prog.underlying 28 = some (.slice (Tryd.prog.elem 28)) := by rw [e]; exact Tryd.underlying28
  obtain ⟨i0, hi0, hz0, hz1, hz2⟩ := info_parts infoU8
  rw [run_slice_lh (w := w) (ht := ht) (kl := .i64) (kh := .i64) (h0 := by omega) (h1 := by omega) (h2 := by omega), e]
  simp [sizeOf, typeInfo, hi0, hz1, sliced, cutA]
  omega
theorem one_entry {a b c : Value} (ha : a.oneCell' = true := by rfl) (hb : b.oneCell' = true := by rfl) (hc : c.oneCell' = true := by rfl) : ∀ v ∈ [a, b, c], v.oneCell' = true := by
  intro v hv
  simp only [List.mem_cons, List.not_mem_nil, or_false] at hv
  rcases hv with rfl | rfl | rfl <;> assumption
theorem infoEntry : (Tryd.prog.info? 89).map (fun i => (i.zero, i.size, i.bytes)) = some (some (.agg #[.string ⟨#[]⟩, .slice none 0 0, .int .i64 0]), 3, 48) := by kernel_rfl
def HdRel (w : World) (b : List UInt8) (ov rv : Value) (wr : World) : Prop :=
  ∃ es r A c, rv = .slice A r.length c ∧ Bs w A c r ∧ readH b = (readH r).map (fun k => es ++ k) ∧ EnOwn w wr w.heap.size ov es ∧ Below w.heap.size w wr ∧ es.length + r.length ≤ b.length
def HdPost (w : World) (b : List UInt8) (e : Ending) (w' : World) : Prop :=
  Below w.heap.size w w' ∧ match readH b with
    | none => e = .returned (.tuple #[.slice none 0 0, .int .i64 17])
    | some es => ∃ v, e = .returned (.tuple #[v, .int .i64 0]) ∧ EnOwn w w' w.heap.size v es
set_option maxHeartbeats 4000000 in
set_option maxRecDepth 100000 in
theorem heads_any (w : World) (b : List UInt8) (A : Option Addr) (c : Nat) (hb : Bs w A c b) (hl : b.length ≤ 1048576) :
    Calls Tryd.prog 61 #[.slice A b.length c] w (HdPost w b) := by
  have kc := fun (w : World) (C : Array Value) (n c : Nat) => Lib.run_convert_bytes_const (P := Tryd.prog) w 28 5 C n c Tryd.underlying28 Tryd.underlying5
  have H0 : Hid (HdRel w b (.slice none 0 0) (.slice A b.length c) w) := Lib.hid ⟨[], b, A, c, rfl, hb, by simp, EnOwn.nil _ _ _, Below.refl _ _, by simp⟩
  clear hb
  go_enter Tryd.func61, Tryd.ntmps61
  go_wp2_with fail
  go_loopw [4, 5] (fun ov rv wr => HdRel w b ov rv wr) (fun _ rv _ => (match rv with | .slice _ n _ => n | _ => 0))
  case atStart => exact H0.out
  case round =>
    clear H0
    obtain ⟨es, r, A', c', rfl, hr, hrd, hen, hB, hle⟩ := hrel
    have Hr := Lib.hid hr
    have Hrd := Lib.hid hrd
    have Hen := Lib.hid hen
    have HB := Lib.hid hB
    have hcap := hr.le
    clear hr hrd hen hB
    have HB1 := Lib.hid (HB.out.trans ((((Below.refl wr.heap.size wr).alloc (Nat.le_refl _) (.cells (u8s [80, 75, 3, 4]).toArray 5 (4, 5)))).mono HB.out.size))
    go_wp2_with fail
    refine (prefix_any r [80, 75, 3, 4] _ _ _ _ _ _ _ rfl rfl ((Hr.out.keep (Cells.of_below HB1.out))) (Bs_made wr [80, 75, 3, 4] (4, 5) (by decide))).mono ?_
    rintro e w1 ⟨rfl, hw1⟩
    have hb1 : Below w.heap.size w w1 := by rw [hw1]; exact HB1.out
    have hen1 : EnOwn w w1 w.heap.size u4 es := by
      obtain ⟨cs, h1, h2⟩ := Hen.out
      have hbw : Below wr.heap.size wr w1 := by rw [hw1]; exact (Below.refl wr.heap.size wr).alloc (Nat.le_refl _) _
      exact ⟨cs, h1, own_keep h2 fun g _ hg => (hbw.block g (lt_of_heap hg)).trans hg⟩
    have Hb1 := Lib.hid hb1
    have Hen1 := Lib.hid hen1
    rw [pre4]
    clear hw1 hb1 hen1 HB1 Hen HB
    by_cases hp : r.take 4 = [80, 75, 3, 4]
    · rw [decide_eq_true hp]
      have Hnone : Hid (∀ W, Below w.heap.size w W → readH r = none → HdPost w b (.returned (.tuple #[.slice none 0 0, .int .i64 17])) W) := Lib.hid fun W hW h => by
        refine ⟨hW, ?_⟩
        rw [Hrd.out, h, Option.map_none]
      by_cases h30 : r.length < 30
      · have hI : (r.length : Int) < 30 := by omega
        have Hfin := Lib.hid (Hnone.out _ Hb1.out (readH_short hp (by unfold headL; omega)))
        clear Hnone
        go_wp2_with fail
        go_ret2
        exact Hfin.out
      · have hI : ¬ (r.length : Int) < 30 := by omega
        obtain ⟨bb, oo, rfl, _⟩ := Hr.out.at_ (k := 0) (by omega)
        have n1 := fun w' (hc : Cells w w') => number_any w' ((r.drop 14).take 4) _ _ ((Hr.out.keep hc).cut (i := 14) (m := 4) rfl (by omega)) (by simp; omega)
        have n2 := fun w' (hc : Cells w w') => number_any w' ((r.drop 18).take 4) _ _ ((Hr.out.keep hc).cut (i := 18) (m := 4) rfl (by omega)) (by simp; omega)
        have n3 := fun w' (hc : Cells w w') => number_any w' ((r.drop 26).take 2) _ _ ((Hr.out.keep hc).cut (i := 26) (m := 2) rfl (by omega)) (by simp; omega)
        rw [show ((r.drop 14).take 4).length = 4 by simp; omega] at n1
        rw [show ((r.drop 18).take 4).length = 4 by simp; omega] at n2
        rw [show ((r.drop 26).take 2).length = 2 by simp; omega] at n3
        have q1 : (18 : Int) ≤ c' := by omega
        have q2 : (22 : Int) ≤ c' := by omega
        have q3 : (28 : Int) ≤ c' := by omega
        have q4 : c' ≠ 14 := by omega
        have q5 : c' ≠ 18 := by omega
        have q6 : c' ≠ 26 := by omega
        have N1 := Lib.hid n1
        have N2 := Lib.hid n2
        have N3 := Lib.hid n3
        clear n1 n2 n3
        go_wp2_with fail
        with_reducible refine g_mix [(0, none), (1, none), (3, none), (4, none), (6, none), (7, none), (2, some false), (5, some false), (8, some false), (9, none), (10, none), (11, none)] (fun _ => True) (by kernel_rfl) (by kernel_rfl) ?_
        intro OPS
        simp only [mixOf, nthO, consO]
        iterate 6 ((with_reducible refine m_val (v := ?_) ?_ ?_ ?_); rotate_left; (rintro _ _; go_simp; first | done | rfl | (constructor <;> rfl)); exact trivial)
        have hc1 : Cells w w1.drew := (Cells.of_below Hb1.out).trans (Cells.drewN w1 1)
        with_reducible refine m_one ?_
        refine l_call ?_ ((N1.out w1.drew hc1).mono ?_)
        · go_simp
        rintro e wq ⟨rfl, rfl⟩
        refine ⟨_, rfl, ?_⟩
        refine m_keep trivial ?_
        with_reducible refine m_one ?_
        refine l_call ?_ ((N2.out w1.drew hc1).mono ?_)
        · go_simp
        rintro e wq ⟨rfl, rfl⟩
        refine ⟨_, rfl, ?_⟩
        refine m_keep trivial ?_
        with_reducible refine m_one ?_
        refine l_call ?_ ((N3.out w1.drew hc1).mono ?_)
        · go_simp
        rintro e wq ⟨rfl, rfl⟩
        refine ⟨_, rfl, ?_⟩
        refine m_keep trivial ?_
        iterate 3 ((with_reducible refine m_val (v := ?_) ?_ ?_ ?_); rotate_left; (rintro _ _; go_simp; first | done | rfl | (constructor <;> rfl)); exact trivial)
        with_reducible refine m_end ?_
        simp only [Act.put, List.setIfInBounds_toArray, List.set_cons_zero, List.set_cons_succ]
        have hcr := numOf_lt ((r.drop 14).take 4)
        have hln := numOf_lt ((r.drop 18).take 4)
        have hnm := numOf_lt ((r.drop 26).take 2)
        rw [show ((r.drop 14).take 4).length = 4 by simp; omega] at hcr
        rw [show ((r.drop 18).take 4).length = 4 by simp; omega] at hln
        rw [show ((r.drop 26).take 2).length = 2 by simp; omega] at hnm
        obtain ⟨cr, hcrE⟩ : ∃ n, n = headN r 14 4 := ⟨_, rfl⟩
        obtain ⟨ln, hlnE⟩ : ∃ n, n = headN r 18 4 := ⟨_, rfl⟩
        obtain ⟨nm, hnmE⟩ : ∃ n, n = headN r 26 2 := ⟨_, rfl⟩
        rw [show numOf ((r.drop 14).take 4) = cr from hcrE.symm] at hcr ⊢
        rw [show numOf ((r.drop 18).take 4) = ln from hlnE.symm] at hln ⊢
        rw [show numOf ((r.drop 26).take 2) = nm from hnmE.symm] at hnm ⊢
        have HcrE := Lib.hid hcrE
        have HlnE := Lib.hid hlnE
        have HnmE := Lib.hid hnmE
        clear hcrE hlnE hnmE N1 N2 N3
        have hcrI : (cr : Int) < 4294967296 := by omega
        have hlnI : (ln : Int) < 4294967296 := by omega
        have hnmI : (nm : Int) < 65536 := by omega
        obtain ⟨R, hR⟩ : ∃ R, r.length = R + 30 := ⟨r.length - 30, by omega⟩
        have hRb : R ≤ 1048576 := by omega
        obtain ⟨A2, hA2⟩ : ∃ X, X = cutA (some ⟨bb, oo, none⟩) c' 30 := ⟨_, rfl⟩
        obtain ⟨c2, hc2⟩ : ∃ X, X = c' - 30 := ⟨_, rfl⟩
        obtain ⟨r2, hr2E⟩ : ∃ X, X = r.drop 30 := ⟨_, rfl⟩
        have hr2l : r2.length = R := by rw [hr2E, List.length_drop]; omega
        have hr2 : Bs w A2 c2 r2 := by rw [hA2, hc2, hr2E]; exact Hr.out.tail (by omega)
        have hsl1 : ∀ w, (Instr.slice 28 (.slice (some ⟨bb, oo, none⟩) (R + 30) c') (some (.int .i64 30)) none none).run Tryd.prog w = .ok (.slice A2 R c2) w := fun w => by
          have := slice_lo (some ⟨bb, oo, none⟩) (R + 30) c' 30 (by omega) w
          rw [hA2, hc2]; simpa using this
        have Hshort : Hid (R < nm + ln → readH r = none) := Lib.hid fun h => readH_short hp (by unfold headL; rw [← HnmE.out, ← HlnE.out]; omega)
        have Hstep : Hid (¬ R < nm + ln → readH r = (readH (r2.drop (nm + ln))).map fun l => ((⟨(r2.take nm).toArray⟩, (r2.drop nm).take ln), cr) :: l) := Lib.hid fun h => by
          rw [readH_step hp (by unfold headL; rw [← HnmE.out, ← HlnE.out]; omega), headL, headF, ← HnmE.out, ← HlnE.out, ← HcrE.out, hr2E, List.drop_drop, List.drop_drop, show 30 + nm + ln = 30 + (nm + ln) by omega]
        have Hr2 := Lib.hid hr2
        have Hr2l := Lib.hid hr2l
        have hr2c := hr2.le
        rw [hr2l] at hr2c
        have HRl := Lib.hid hR
        rw [hR] at hI hcap hle ⊢
        clear hR hI h30 q1 q2 q3 q4 q5 q6 hcrI hlnI hr2 hA2 hc2 hr2E hr2l hcr hln hnm hp HcrE HlnE HnmE
        by_cases hsh : R < nm + ln
        · have Hfin := Lib.hid (Hnone.out w1.drew ⟨Hb1.out.os, Hb1.out.tape, Hb1.out.output, Hb1.out.size, Hb1.out.block⟩ (Hshort.out hsh))
          clear Hnone hle hcap
          by_cases hnl : R < nm
          · have hnlI : (R : Int) < nm := by omega
            go_wp2_with fail
            all_goals (go_ret2; exact Hfin.out)
          · have hnlI : ¬ (R : Int) < nm := by omega
            have hlnI2 : (R : Int) - nm < ln := by omega
            go_wp2_with fail
            all_goals (go_ret2; exact Hfin.out)
        · clear Hnone Hshort
          have Hstep := Lib.hid (Hstep.out hsh)
          have hnlI : ¬ (R : Int) < nm := by omega
          have hlnI2 : ¬ (R : Int) - nm < ln := by omega
          go_wp2_with fail
          have hbd : Below w.heap.size w w1.drew := ⟨Hb1.out.os, Hb1.out.tape, Hb1.out.output, Hb1.out.size, Hb1.out.block⟩
          obtain ⟨nmS, hnmS⟩ : ∃ X : ByteArray, X = ⟨(r2.take nm).toArray⟩ := ⟨_, rfl⟩
          have hcv : ∀ w', Below w.heap.size w w' → (convert 28 9 (.slice A2 nm c2)).run Tryd.prog w' = .ok (.string nmS) w' := fun w' hw' => by
            have := str_of_bs ((Hr2.out.front (m := nm) (by rw [Hr2l.out]; omega)).keep (Cells.of_below hw'))
            rw [List.length_take, Hr2l.out, Nat.min_eq_left (by omega)] at this
            rw [hnmS]
            exact this
          have Hdat : Hid (Bs w (cutA A2 c2 nm) (c2 - nm) ((r2.drop nm).take ln)) := Lib.hid ((Hr2.out.tail (by rw [Hr2l.out]; omega)).front (by rw [List.length_drop, Hr2l.out]; omega))
          have hs1 := slice_hi A2 R c2 nm (by omega)
          have hs2 := slice_lh A2 R c2 nm ln (by omega)
          obtain ⟨A3, hA3⟩ : ∃ X, X = cutA A2 c2 nm := ⟨_, rfl⟩
          rw [← hA3] at hs2 Hdat
          have HnmS := Lib.hid hnmS
          have Hcv := Lib.hid hcv
          have Hbd := Lib.hid hbd
          have hsum : IntKind.i64.wrap ((nm : Int) + (ln : Int)) = (nm : Int) + ln := by rw [IntKind.wrap_i64]; omega
          obtain ⟨cse, hcs, hrow⟩ := Hen1.out
          obtain ⟨Ae, ce, hu4, _, _, _, _⟩ := own_form hrow
          subst hu4
          have Hcse := Lib.hid hcs
          have Hrow := Lib.hid hrow
          obtain ⟨iE, hiE, hzE, hsE, hbE⟩ := info_parts infoEntry
          have hel : es.length ≤ 1048576 := by omega
          have hds := Hdat.out
          have Hdl : Hid (((r2.drop nm).take ln).length = ln) := Lib.hid (by rw [List.length_take, List.length_drop, Hr2l.out]; omega)
          clear hnmS hcv hbd hA3 hcs hrow hds
          with_reducible refine g_mix [(0, none), (1, none), (2, none), (3, none), (4, none), (5, none), (6, none), (7, none), (8, none), (9, none), (10, none), (11, none), (12, none), (13, none), (14, some false), (15, some false), (16, none)] (fun w' => (convert 28 9 (.slice A2 nm c2)).run Tryd.prog w' = .ok (.string nmS) w') (by kernel_rfl) (by kernel_rfl) ?_
          intro OPS
          simp only [mixOf, nthO, consO]
          iterate 14 ((with_reducible refine m_val (v := ?_) ?_ ?_ ?_); rotate_left; (rintro _ h1; (try simp only [hsum]); go_simp; first | done | rfl | (constructor <;> rfl)); exact (Hcv.out _ ⟨Hbd.out.os, Hbd.out.tape, Hbd.out.output, Hbd.out.size, Hbd.out.block⟩))
          with_reducible refine m_one ?_
          iterate 1 (with_reducible refine l_val (v := ?_) (w' := ?_) ?_ ?_; rotate_left 2; (go_simp; first | done | rfl | (constructor <;> rfl)))
          have hbA : Below w.heap.size w (w1.drew.drew.alloc (.cells #[.string nmS, .slice A3 ln (c2 - nm), .int .i64 (cr : Nat)] 89)) := by
            have h0 : Below w.heap.size w w1.drew.drew := ⟨Hb1.out.os, Hb1.out.tape, Hb1.out.output, Hb1.out.size, Hb1.out.block⟩
            exact h0.alloc Hb1.out.size _
          refine m_keep (Hcv.out _ hbA) ?_
          with_reducible refine m_one ?_
          refine wpList_append_own _ rfl (.tmp 40) (.tmp 54) 84 rfl w.heap.size 89 iE (.agg #[.string ⟨#[]⟩, .slice none 0 0, .int .i64 0]) 3 48 Tryd.underlying84 hiE hzE hsE hbE rfl (by omega) (.slice Ae es.length ce) es.length cse.flatten ?_ (World.ownsRow.alloc (w := w1.drew.drew) Hrow.out _) ⟨w1.heap.size, 0, none⟩ 1 1 [.string nmS, .slice A3 ln (c2 - nm), .int .i64 (cr : Nat)] ?_ rfl (fun j v hv => World.news_of_block (w := w1.drew.drew.alloc _) (heap_alloc_new w1.drew.drew _) j v hv) one_entry (by unfold maxLen; omega) (by omega) (by have := Hb1.out.size; simp; omega) ?_
          · simp [Act.eval, Act.put]
          · simp [Act.eval, Act.put]
          intro v' w2 hown hgrow _
          have hb2 : Below w.heap.size w w2 := hbA.grown hgrow (by have := Hb1.out.size; simp; omega) (fun q hq => (own_blk Hrow.out q hq).1)
          have hen2 : EnOwn w w2 w.heap.size v' (es ++ [((nmS, (r2.drop nm).take ln), cr)]) := by
            refine ⟨cse ++ [[.string nmS, .slice A3 ln (c2 - nm), .int .i64 (cr : Nat)]], Hcse.out.append ⟨A3, c2 - nm, by rw [Hdl.out], Hdat.out⟩, ?_⟩
            rw [List.length_append, List.flatten_append, List.flatten_singleton]
            exact hown
          have Hen2 := Lib.hid hen2
          have Hb2 := Lib.hid hb2
          obtain ⟨A4, c4, rfl, _, _, _, _⟩ := own_form hown
          clear hown hgrow hen2 hb2 hbA hs1 hs2 hsum
          refine m_keep (Hcv.out _ Hb2.out) ?_
          iterate 1 ((with_reducible refine m_val (v := ?_) ?_ ?_ ?_); rotate_left; (rintro _ h1; go_simp; first | done | rfl | (constructor <;> rfl)); exact (Hcv.out _ Hb2.out))
          with_reducible refine m_end ?_
          simp only [Act.put, List.setIfInBounds_toArray, List.set_cons_zero, List.set_cons_succ]
          have hsl3 := fun w' => slice_lo A2 R c2 (nm + ln) (by omega) w'
          have hsum : IntKind.i64.wrap ((nm : Int) + (ln : Int)) = (nm : Int) + ln := by rw [IntKind.wrap_i64]; omega
          rw [Int.natCast_add] at hsl3
          obtain ⟨A5, hA5⟩ : ∃ X, X = cutA A2 c2 (nm + ln) := ⟨_, rfl⟩
          rw [← hA5] at hsl3
          have hbr : Bs w A5 (c2 - (nm + ln)) (r2.drop (nm + ln)) := by rw [hA5]; exact Hr2.out.tail (by rw [Hr2l.out]; omega)
          have Hfin : Hid (HdRel w b (.slice A4 (es.length + 1) c4) (.slice A5 (R - (nm + ln)) (c2 - (nm + ln))) w2) := Lib.hid ⟨es ++ [((nmS, (r2.drop nm).take ln), cr)], r2.drop (nm + ln), A5, c2 - (nm + ln), by rw [List.length_drop, Hr2l.out], hbr, by
            rw [Hrd.out, Hstep.out, Option.map_map, HnmS.out]
            congr 1
            funext k
            simp, Hen2.out, Hb2.out, by rw [List.length_append, List.length_drop, Hr2l.out, List.length_singleton]; omega⟩
          clear hbr hA5 Hen2
          go_wp2_with fail
          refine ⟨Hfin.out, ?_⟩
          have := HRl.out
          show R - (nm + ln) < r.length
          omega
    · rw [decide_eq_false hp]
      have Hfin : Hid (HdPost w b (.returned (.tuple #[u4, .int .i64 0])) w1) := Lib.hid (by
        refine ⟨Hb1.out, ?_⟩
        rw [Hrd.out, readH_stop hp, Option.map_some, List.append_nil]
        exact ⟨u4, rfl, Hen1.out⟩)
      go_wp2_with fail
      go_ret2
      exact Hfin.out
end Go.Proofs.YtdmladdpbdcpjaaDoor
