/-
  The package's archive of any files. (Printed by wip/abexp.py.)
  Pack of the package: any files, over a contract of their order. (Printed by wip/abexp.py.)
-/
import Derived.Test.YtdmladdpbdcpjaaDoorArkPk0
namespace Go.Proofs.YtdmladdpbdcpjaaDoor
open Go.RowKit

set_option linter.unusedSimpArgs false

attribute [local go_sem] lt1 lt2 lt3 lt4 lt5 lt6

def PkPost (w : World) (l : List Fl) (e : Ending) (w' : World) : Prop := ∃ v, e = .returned v ∧ w'.ownsRow w.heap.size 5 1 v (packB l).length (u8s (packB l)) ∧ Below w.heap.size w w'
def Lp1 (w : World) (gw gv g2 g4 b1 : Nat) (l : List Fl) (av iv : Value) (wr : World) : Prop :=
  ∃ i, i ≤ l.length ∧ iv = .int .i64 (i : Nat) ∧ Pk w gw gv g2 g4 b1 (locsB (l.take i)) av ((List.range i).map (begs l)) wr
def Lp2 (w : World) (gw gv g2 g4 b1 : Nat) (l : List Fl) (av iv : Value) (wr : World) : Prop :=
  ∃ i, i ≤ l.length ∧ iv = .int .i64 (i : Nat) ∧ Pk w gw gv g2 g4 b1 (locsB l ++ censB l i) av ((List.range l.length).map (begs l)) wr
set_option maxHeartbeats 8000000 in
set_option maxRecDepth 100000 in
theorem pack_any (w : World) (A : Option Addr) (c : Nat) (l : List Fl) (hf : FlAt w A c l) (hl : l.length ≤ 1024) (hs : ∀ p ∈ l, p.1.size ≤ 1048576) (hd : ∀ p ∈ l, p.2.length ≤ 1048576) :
    Calls Tryd.prog 47 #[.slice A l.length c] w (PkPost w l) := by
  obtain ⟨iI, hiI, hzI, hsI, hbI⟩ : ∃ i : TypeInfo, Tryd.prog.info? 3 = some i ∧ i.zero = some (.int .i64 0) ∧ i.size = 1 ∧ i.bytes = 8 := by
    have := infoInt
    cases h : Tryd.prog.info? 3 with
    | none => rw [h] at this; cases this
    | some i => rw [h] at this; simp at this; exact ⟨i, rfl, this.1, this.2.1, this.2.2⟩
  have Hf := Lib.hid hf
  have Hs := Lib.hid hs
  have Hd := Lib.hid hd
  have Hlb := Lib.hid (locsB_bound l 1048576 1048576 hs hd)
  have Hcb := Lib.hid (censB_bound l 1048576 hs)
  clear hf hs hd
  go_enter Tryd.func47, Tryd.ntmps47
  go_wp2_with fail
  refine (writer_any _).mono ?_
  rintro e w1 ⟨gw, gv, g2, g4, rfl, hw, hb⟩
  have HP0 : Hid (Pk w gw gv g2 g4 w1.heap.size [] (.slice none 0 0) [] w1) := Lib.hid ⟨⟨_, hw⟩, World.ownsRow_nil _ _ _ _, hb, lt_of_heap hw.blk, lt_of_heap hw.var, lt_of_heap hw.two, lt_of_heap hw.four, hb.size, Nat.le_refl _⟩
  clear hb hw
  generalize w1.heap.size = b1 at *
  go_wp2_with fail
  go_loopw [4, 14] (fun av iv wr => Lp1 w gw gv g2 g4 b1 l av iv wr) (fun _ iv _ => l.length - (intOf iv).toNat)
  case atStart => exact ⟨0, by omega, rfl, HP0.out⟩
  case round =>
    clear HP0
    obtain ⟨i, hi, rfl, hP⟩ := hrel
    have HP := Lib.hid hP
    clear hP
    have hir : (0 : Int) ≤ i := by omega
    by_cases hlt : i < l.length
    · have hlI : (i : Int) < l.length := by omega
      obtain ⟨bb, oo, Ai, ci, rfl, f1, f2, hbs⟩ := Hf.out.at_ hlt
      have f1 := Cells.of_below HP.out.below _ _ f1
      have f2 := Cells.of_below HP.out.below _ _ f2
      have hps := Hs.out _ (List.mem_of_getElem? (getD_some hlt))
      have hpd := Hd.out _ (List.mem_of_getElem? (getD_some hlt))
      have Hbs := Lib.hid hbs
      have Hst := Lib.hid (locsB_take hlt)
      have hBl : (locsB (l.take i)).length ≤ 2147549184 := Nat.le_trans (Hlb.out i hi) (Nat.le_trans (Nat.mul_le_mul_right _ (Nat.le_trans hi hl)) (by omega))
      have hbg : begs l i = (locsB (l.take i)).length := rfl
      have Hbg : Hid ((List.range (i + 1)).map (begs l) = (List.range i).map (begs l) ++ [(locsB (l.take i)).length]) := Lib.hid (by rw [List.range_succ, List.map_append]; rfl)
      clear hbs hbg
      generalize l.getD i noFl = p at *
      obtain ⟨B, hB⟩ : ∃ B, B = locsB (l.take i) := ⟨_, rfl⟩
      obtain ⟨L, hL⟩ : ∃ L, L = (List.range i).map (begs l) := ⟨_, rfl⟩
      have hLl : L.length = i := by rw [hL]; simp
      rw [← hB] at HP hBl Hst Hbg
      rw [← hL] at HP Hbg
      clear hL
      have HLl := Lib.hid hLl
      have HB := Lib.hid hB
      clear hB hLl
      have Hbs0 : Hid (Bs w Ai ci p.2) := Hbs
      have HP1 := Lib.hid (HP.out.over ((Below.refl wr.heap.size wr).alloc (Nat.le_refl _) (.cells #[.string p.1, .slice Ai p.2.length ci] 46)))
      have HP2 := Lib.hid (HP1.out.over ((Below.refl _ (wr.alloc (.cells #[.string p.1, .slice Ai p.2.length ci] 46))).alloc (Nat.le_refl _) (.cells #[.int .i64 B.length] 3)))
      have hn0 : ((wr.alloc (.cells #[.string p.1, .slice Ai p.2.length ci] 46)).alloc (.cells #[.int .i64 B.length] 3)).heap[wr.heap.size + 1]? = some (.cells #[.int .i64 B.length] 3 (0, 0)) := by
        have := heap_alloc_new (wr.alloc (.cells #[.string p.1, .slice Ai p.2.length ci] 46)) (.cells #[.int .i64 (B.length : Nat)] 3)
        simpa using this
      have HN0 := Lib.hid hn0
      clear hn0
      have hF1 := heap_alloc_new wr (.cells #[.string p.1, .slice Ai p.2.length ci] 46)
      have hF2 := ((Below.refl _ (wr.alloc (.cells #[.string p.1, .slice Ai p.2.length ci] 46))).alloc (Nat.le_refl _) (.cells #[.int .i64 B.length] 3)).block wr.heap.size (by simp)
      have HF2 := Lib.hid (hF2.trans hF1)
      obtain ⟨Ab, cb, c1, c2, c3⟩ := HP1.out.wx.cells
      obtain ⟨Av, cv, rfl, _, _, _, _⟩ := own_form HP.out.row
      clear hF1 hF2 c2 c3
      go_wp2_with (first | (at_builtin; refine wpList_append_own _ rfl _ _ 91 rfl b1 3 iI (.int .i64 0) 1 8 Tryd.underlying91 hiI hzI hsI hbI rfl (by omega) (.slice Av L.length cv) L.length (ints L) ?h1 ?h2 ⟨wr.heap.size + 1, 0, none⟩ 1 1 [.int .i64 (B.length : Nat)] ?h3 ?h4 ?h5 ?h6 ?h7 ?h8 ?h9 ?_))
      case h1 => rfl
      case h2 => exact HP2.out.row
      case h3 => rfl
      case h4 => rfl
      case h5 => exact fun j v hv => World.news_of_block HN0.out j v hv
      case h6 => intro u hu; rw [List.mem_singleton.1 hu]; rfl
      case h7 => rw [HLl.out]; unfold maxLen; omega
      case h8 => rw [HLl.out]; omega
      case h9 => exact HP2.out.hs
      intro v' w2 hown hgrow hq
      have HP3 : Hid (Pk w gw gv g2 g4 b1 B v' (L ++ [B.length]) w2) := Lib.hid (HP2.out.grown hgrow (by rw [List.length_append, show ints (L ++ [B.length]) = ints L ++ [.int .i64 (B.length : Nat)] by simp [ints]]; exact hown))
      have HF3 : Hid (w2.heap[wr.heap.size]? = some (.cells #[.string p.1, .slice Ai p.2.length ci] 46 (0, 0))) := Lib.hid ((hgrow.block _ (lt_of_heap HF2.out) fun e => (by
        obtain ⟨_, cur, hcur⟩ := own_blk HP2.out.row _ e.symm
        rw [HF2.out] at hcur
        simp at hcur)).trans HF2.out)
      rw [← Hbg.out] at HP3
      clear hq hown hgrow HP2 HP1 HF2 c1 Hbg
      generalize wr.heap.size = g6 at *
      clear f1 f2
      have HP3 := HP3
      obtain ⟨B3, hB3⟩ : ∃ X, X = B := ⟨_, rfl⟩
      rw [← hB3] at HP3 hBl Hst
      have HE3 := Lib.hid hB3
      clear hB3
      go_wp2_with fail
      refine (mark_any _ _ _ _ _ _ _ HP3.out.wx ⟨#[80, 75, 3, 4]⟩ (by show B3.length + 4 ≤ _; omega) HP3.out.below.size).mono ?_
      rintro e w4 ⟨rfl, hx, hfr⟩
      have HF4 := Lib.hid (hfr.other HF3.out not_w_file)
      obtain ⟨B4, hB⟩ : ∃ X, X = B3 ++ toL ⟨#[80, 75, 3, 4]⟩ := ⟨_, rfl⟩
      have hl4 : B4.length = B3.length + 4 := by rw [hB, List.length_append]; rfl
      have hp := HP3.out.step hx hfr
      rw [← hB] at hp
      have HP4 := Lib.hid hp
      have HE4 := Lib.hid hB
      obtain ⟨Ab, cb, c1, c2, c3⟩ := hp.wx.cells
      unfold FW at c2 c3
      have e0 : w4.cell? ⟨g6, 0, none⟩ = some (.string p.1) := (blk_cells HF4.out).1 0
      have e1 : w4.cell? ⟨g6, 1, none⟩ = some (.slice Ai p.2.length ci) := (blk_cells HF4.out).1 1
      clear hp hx hfr hB HP3 HF3
      clear c1 c3 e0 e1
      go_wp2_with fail
      refine (put2 HP4.out.wx HP4.out.below.size [20, 0, 0, 0, 33] (by decide) (by omega) (by decide) _ rfl _ _ rfl).mono ?_
      rintro e w5 ⟨rfl, hx, hfr⟩
      have HF5 := Lib.hid (hfr.other HF4.out not_w_file)
      obtain ⟨B5, hB⟩ : ∃ X, X = B4 ++ lesB 2 [20, 0, 0, 0, 33] := ⟨_, rfl⟩
      have hl5 : B5.length = B4.length + 10 := by rw [hB, List.length_append]; rw [lesB_length]; rfl
      have hp := HP4.out.step hx hfr
      rw [← hB] at hp
      have HP5 := Lib.hid hp
      have HE5 := Lib.hid hB
      obtain ⟨Ab, cb, c1, c2, c3⟩ := hp.wx.cells
      unfold FW at c2 c3
      have e0 : w5.cell? ⟨g6, 0, none⟩ = some (.string p.1) := (blk_cells HF5.out).1 0
      have e1 : w5.cell? ⟨g6, 1, none⟩ = some (.slice Ai p.2.length ci) := (blk_cells HF5.out).1 1
      clear hp hx hfr hB HP4 HF4
      clear c1 c2 e0
      have HbP := Lib.hid (Bs_below Hbs0.out HP5.out.below)
      have hkc := crcOf_lt p.2
      obtain ⟨kc, hkcE⟩ : ∃ k, k = crcOf p.2 := ⟨_, rfl⟩
      have hcrc := fun w' h => crc_any w' p.2 Ai ci h
      rw [← hkcE] at hcrc hkc
      have HkcE := Lib.hid hkcE
      have Hcrc := Lib.hid hcrc
      clear hkcE hcrc
      have hkw : IntKind.i64.wrap (kc : Int) = kc := by rw [IntKind.wrap_i64]; omega
      go_wp2_with fail
      with_reducible refine g_mix [(0, none), (1, none), (2, none), (3, none), (4, none), (5, none), (8, none), (9, none), (10, none), (11, none), (12, none), (13, none), (6, some false), (7, none), (14, some false), (15, some true)] (fun w' => w'.cell? ⟨gw, 2, none⟩ = some (.func (.func 94) #[] #[.pointer (some ⟨g4, 0, none⟩), .pointer (some ⟨gv, 0, none⟩)]) ∧ w'.cell? ⟨g6, 1, none⟩ = some (.slice Ai p.2.length ci)) (by kernel_rfl) (by kernel_rfl) ?_
      intro OPS
      simp only [mixOf, nthO, consO]
      iterate 12 ((with_reducible refine m_val (v := ?_) ?_ ?_ ?_); rotate_left; (rintro _ ⟨h1, h2⟩; go_simp; first | done | rfl | (constructor <;> rfl)); exact ⟨c3, e1⟩)
      with_reducible refine m_one ?_
      refine l_call ?_ ((Hcrc.out _ (HbP.out.keep (Cells.drewN w5 1))).mono ?_)
      · go_simp
      rintro e wq ⟨rfl, rfl⟩
      refine ⟨_, rfl, ?_⟩
      refine m_keep ⟨c3, e1⟩ ?_
      iterate 1 ((with_reducible refine m_val (v := ?_) ?_ ?_ ?_); rotate_left; (rintro _ ⟨h1, h2⟩; (try simp only [hkw]); go_simp; first | done | rfl | (constructor <;> rfl)); exact ⟨c3, e1⟩)
      with_reducible refine m_one ?_
      iterate 1 (with_reducible refine l_val (v := ?_) (w' := ?_) ?_ ?_; rotate_left 2; (go_simp; first | done | rfl | (constructor <;> rfl)))
      refine m_keep ⟨Cells.alloc _ _ _ _ c3, Cells.alloc _ _ _ _ e1⟩ ?_
      with_reducible refine m_one ?_
      refine l_call ?_ ((put4 (w := w5.drewN 1) (HP5.out.wx.drewN 1) HP5.out.below.size [kc, p.2.length, p.2.length] (by intro n hn; simp only [List.mem_cons, List.not_mem_nil, or_false] at hn; omega) (by omega) (by simp) #[.int .i64 (kc : Nat), .int .i64 (p.2.length : Nat), .int .i64 (p.2.length : Nat)] rfl 3 3 rfl).mono ?_)
      · go_simp
      rintro e w6 ⟨rfl, hx, hfr0⟩
      have hfr := (FrW.drewN w.heap.size w5 1).trans hfr0
      refine ⟨_, rfl, ?_⟩
      with_reducible refine m_last ?_
      with_reducible refine m_end ?_
      simp only [Act.put, List.setIfInBounds_toArray, List.set_cons_zero, List.set_cons_succ]
      clear c3 e1 hfr0
      have HF6 := Lib.hid (hfr.other HF5.out not_w_file)
      obtain ⟨B6, hB⟩ : ∃ X, X = B5 ++ lesB 4 [kc, p.2.length, p.2.length] := ⟨_, rfl⟩
      have hl6 : B6.length = B5.length + 12 := by rw [hB, List.length_append]; rw [lesB_length]; rfl
      have hp := HP5.out.step hx hfr
      rw [← hB] at hp
      have HP6 := Lib.hid hp
      have HE6 := Lib.hid hB
      obtain ⟨Ab, cb, c1, c2, c3⟩ := hp.wx.cells
      unfold FW at c2 c3
      have e0 : w6.cell? ⟨g6, 0, none⟩ = some (.string p.1) := (blk_cells HF6.out).1 0
      have e1 : w6.cell? ⟨g6, 1, none⟩ = some (.slice Ai p.2.length ci) := (blk_cells HF6.out).1 1
      clear hp hx hfr hB HP5 HF5
      clear c1 c3 e1 hkw
      go_wp2_with fail
      with_reducible refine g_mix [(0, none), (1, none), (2, none), (3, none), (4, none), (5, none), (6, none), (7, some false), (8, some true)] (fun w' => w'.cell? ⟨gw, 1, none⟩ = some (.func (.func 94) #[] #[.pointer (some ⟨g2, 0, none⟩), .pointer (some ⟨gv, 0, none⟩)]) ∧ w'.cell? ⟨g6, 0, none⟩ = some (.string p.1)) (by kernel_rfl) (by kernel_rfl) ?_
      intro OPS
      simp only [mixOf, nthO, consO]
      iterate 7 ((with_reducible refine m_val (v := ?_) ?_ ?_ ?_); rotate_left; (rintro _ ⟨h1, h2⟩; go_simp; first | done | rfl | (constructor <;> rfl)); exact ⟨c2, e0⟩)
      with_reducible refine m_one ?_
      iterate 1 (with_reducible refine l_val (v := ?_) (w' := ?_) ?_ ?_; rotate_left 2; (go_simp; first | done | rfl | (constructor <;> rfl)))
      refine m_keep ⟨Cells.alloc _ _ _ _ c2, Cells.alloc _ _ _ _ e0⟩ ?_
      with_reducible refine m_one ?_
      refine l_call ?_ ((put2 (w := w6.drewN 1) (HP6.out.wx.drewN 1) HP6.out.below.size [p.1.size, 0] (by intro n hn; simp only [List.mem_cons, List.not_mem_nil, or_false] at hn; omega) (by omega) (by simp) #[.int .i64 (p.1.size : Nat), .int .i64 0] rfl 2 2 rfl).mono ?_)
      · go_simp
      rintro e w7 ⟨rfl, hx, hfr0⟩
      have hfr := (FrW.drewN w.heap.size w6 1).trans hfr0
      refine ⟨_, rfl, ?_⟩
      with_reducible refine m_last ?_
      with_reducible refine m_end ?_
      simp only [Act.put, List.setIfInBounds_toArray, List.set_cons_zero, List.set_cons_succ]
      clear c2 e0 hfr0
      have HF7 := Lib.hid (hfr.other HF6.out not_w_file)
      obtain ⟨B7, hB⟩ : ∃ X, X = B6 ++ lesB 2 [p.1.size, 0] := ⟨_, rfl⟩
      have hl7 : B7.length = B6.length + 4 := by rw [hB, List.length_append]; rw [lesB_length]; rfl
      have hp := HP6.out.step hx hfr
      rw [← hB] at hp
      have HP7 := Lib.hid hp
      have HE7 := Lib.hid hB
      obtain ⟨Ab, cb, c1, c2, c3⟩ := hp.wx.cells
      unfold FW at c2 c3
      have e0 : w7.cell? ⟨g6, 0, none⟩ = some (.string p.1) := (blk_cells HF7.out).1 0
      have e1 : w7.cell? ⟨g6, 1, none⟩ = some (.slice Ai p.2.length ci) := (blk_cells HF7.out).1 1
      clear hp hx hfr hB HP6 HF6
      clear c1 c2 c3 e1
      go_wp2_with fail
      refine (mark_any _ _ _ _ _ _ _ HP7.out.wx p.1 (by omega) HP7.out.below.size).mono ?_
      rintro e w8 ⟨rfl, hx, hfr⟩
      have HF8 := Lib.hid (hfr.other HF7.out not_w_file)
      obtain ⟨B8, hB⟩ : ∃ X, X = B7 ++ toL p.1 := ⟨_, rfl⟩
      have hl8 : B8.length = B7.length + p.1.size := by rw [hB, List.length_append]; rw [toL_length]
      have hp := HP7.out.step hx hfr
      rw [← hB] at hp
      have HP8 := Lib.hid hp
      have HE8 := Lib.hid hB
      obtain ⟨Ab, cb, c1, c2, c3⟩ := hp.wx.cells
      unfold FW at c2 c3
      have e0 : w8.cell? ⟨g6, 0, none⟩ = some (.string p.1) := (blk_cells HF8.out).1 0
      have e1 : w8.cell? ⟨g6, 1, none⟩ = some (.slice Ai p.2.length ci) := (blk_cells HF8.out).1 1
      clear hp hx hfr hB HP7 HF7
      clear c1 c2 c3 e0
      go_wp2_with fail
      obtain ⟨b8, hWr⟩ := HP8.out.wx
      obtain ⟨Ab, cb, rfl, _, _, _, _⟩ := own_form hWr.row
      have c1 : w8.cell? ⟨gw, 0, none⟩ = some (.slice Ab B8.length cb) := (blk_cells hWr.blk).1 0
      have HWr := Lib.hid (hWr.drewN 1)
      have HbQ := Lib.hid ((Bs_below Hbs0.out HP8.out.below).keep (Cells.drewN w8 1))
      clear hWr
      with_reducible refine g_mix [(0, none), (1, none), (2, none), (3, none), (4, none), (5, none), (6, none), (7, some false), (8, none), (9, none), (10, some true)] (fun w' => w'.cell? ⟨gw, 0, none⟩ = some (.slice Ab B8.length cb) ∧ w'.cell? ⟨g6, 1, none⟩ = some (.slice Ai p.2.length ci)) (by kernel_rfl) (by kernel_rfl) ?_
      intro OPS
      simp only [mixOf, nthO, consO]
      iterate 7 ((with_reducible refine m_val (v := ?_) ?_ ?_ ?_); rotate_left; (rintro _ ⟨h1, h2⟩; go_simp; first | done | rfl | (constructor <;> rfl)); exact ⟨c1, e1⟩)
      with_reducible refine m_one ?_
      refine append_bs rfl (.tmp 67) (.tmp 69) rfl w.heap.size (.slice Ab B8.length cb) B8.length (u8s B8) ?_ HWr.out.row Ai ci p.2 ?_ HbQ.out (by omega) HP8.out.below.size ?_
      · first | (simp [Act.eval, Act.put]; done) | (simp [Act.eval, Act.put]; omega)
      · simp [Act.eval, Act.put]
      intro vb w9 hown hgrow
      have hrow : w9.ownsRow w.heap.size 5 1 vb (B8 ++ p.2).length (u8s (B8 ++ p.2)) := by
        rw [List.length_append, show u8s (B8 ++ p.2) = u8s B8 ++ u8s p.2 by simp [u8s]]
        exact hown
      obtain ⟨N, hN⟩ : ∃ N, N = (B8 ++ p.2).length := ⟨_, rfl⟩
      have hrow' := hrow
      rw [← hN] at hrow'
      obtain ⟨Ab', cb', rfl, _, _, _, _⟩ := own_form hrow'
      obtain ⟨k1, k2⟩ := HWr.out.laid hgrow hrow
      obtain ⟨b1', b2'⟩ := HWr.out.kept hgrow
      have d1 : w9.cell? ⟨gw, 0, none⟩ = some (.slice Ab B8.length cb) := (blk_cells b1').1 0
      have d2 : w9.frozen? ⟨gw, 0, none⟩ = false := (blk_cells b1').2.1 0
      have d3 : w9.cell? ⟨g6, 1, none⟩ = some (.slice Ai p.2.length ci) := (blk_cells ((FrW.of_grown HWr.out.row hgrow).other HF8.out not_w_file)).1 1
      have Hfin : Hid (Lp1 w gw gv g2 g4 b1 l v' (.int .i64 ((i : Int) + 1)) (w9.setCell ⟨gw, 0, none⟩ (.slice Ab' N cb'))) := Lib.hid ⟨i + 1, by omega, by simp, by
        have := HP8.out.step ⟨_, k1⟩ ((FrW.drewN w.heap.size w8 1).trans k2)
        rw [show locsB (l.take (i + 1)) = B8 ++ p.2 by rw [Hst.out, HE8.out, HE7.out, HE6.out, HE5.out, HE4.out, HkcE.out]; simp [locB, toL]]
        exact this⟩
      clear hown hgrow hrow hrow' hN k1 k2 b1' b2' HP8 HF8 HWr HbQ HbP
      refine m_keep ⟨d1, d3⟩ ?_
      iterate 2 ((with_reducible refine m_val (v := ?_) ?_ ?_ ?_); rotate_left; (rintro _ ⟨h1, h2⟩; go_simp; first | done | rfl | (constructor <;> rfl)); exact ⟨d1, d3⟩)
      with_reducible refine m_one ?_
      with_reducible refine l_skip (w' := w9.setCell ⟨gw, 0, none⟩ (.slice Ab' N cb')) ?_ ?_
      · go_simp
      with_reducible refine m_last ?_
      with_reducible refine m_end ?_
      clear d1 d2 d3 c1 e1
      simp only [Act.put, List.setIfInBounds_toArray, List.set_cons_zero, List.set_cons_succ]
      go_wp2_with fail
      exact ⟨Hfin.out, by simp only [intOf]; omega⟩
    · obtain rfl : i = l.length := by omega
      have hP := HP.out
      rw [List.take_of_length_le (Nat.le_refl _)] at hP
      have HQ := Lib.hid hP
      obtain ⟨Ab, cb, c1, c2, c3⟩ := hP.wx.cells
      clear hP HP c2 c3
      go_wp2_with fail
      clear c1
      have HL2 : Hid (Lp2 w gw gv g2 g4 b1 l u4 (.int .i64 0) wr) := Lib.hid ⟨0, by omega, rfl, by simpa [censB] using HQ.out⟩
      clear HQ hi hir hlt
      obtain ⟨Z, hZ⟩ : ∃ Z, Z = (locsB l).length := ⟨_, rfl⟩
      rw [← hZ]
      have HZ := Lib.hid hZ
      clear hZ
      go_loopw [81] (fun iv wr => Lp2 w gw gv g2 g4 b1 l u4 iv wr) (fun iv _ => l.length - (intOf iv).toNat)
      case atStart => exact HL2.out
      clear HL2
      obtain ⟨i, hi, rfl, hP⟩ := hrel
      have HP := Lib.hid hP
      clear hP
      have hir : (0 : Int) ≤ i := by omega
      by_cases hlt : i < l.length
      · have hlI : (i : Int) < l.length := by omega
        obtain ⟨bb, oo, Ai, ci, rfl, f1, f2, hbs⟩ := Hf.out.at_ hlt
        have f1 := Cells.of_below HP.out.below _ _ f1
        have f2 := Cells.of_below HP.out.below _ _ f2
        have hps := Hs.out _ (List.mem_of_getElem? (getD_some hlt))
        have hpd := Hd.out _ (List.mem_of_getElem? (getD_some hlt))
        have Hbs0 : Hid (Bs w Ai ci (l.getD i noFl).2) := Lib.hid hbs
        have Hst := Lib.hid (censB_succ l i)
        have hBl : (locsB l ++ censB l i).length ≤ 3221338112 := by
          have h1 := Hlb.out l.length (Nat.le_refl _)
          rw [List.take_of_length_le (Nat.le_refl _)] at h1
          have h2 := Hcb.out i hi
          have h3 := Nat.mul_le_mul_right (30 + 1048576 + 1048576) hl
          have h4 := Nat.mul_le_mul_right (46 + 1048576) (Nat.le_trans hi hl)
          rw [List.length_append]
          omega
        have hbg : begs l i ≤ 2147549184 := Nat.le_trans (Hlb.out i hi) (Nat.le_trans (Nat.mul_le_mul_right _ (Nat.le_trans hi hl)) (by omega))
        have hr0 := HP.out.row
        rw [show ((List.range l.length).map (begs l)).length = l.length by simp] at hr0
        obtain ⟨gi, cv, rfl⟩ := own_atv hr0 (by omega)
        clear hr0
        have Hbc : Hid (∀ w' B, Pk w gw gv g2 g4 b1 B (.slice (some ⟨gi, 0, none⟩) l.length cv) ((List.range l.length).map (begs l)) w' → w'.cell? ⟨gi, i, none⟩ = some (.int .i64 (begs l i : Nat))) := Lib.hid fun w' B h => by
          have hr0 := h.row
          rw [show ((List.range l.length).map (begs l)).length = l.length by simp] at hr0
          refine own_cell hr0 ?_
          rw [ints_at (by simpa using hlt)]
          simp [List.getD_eq_getElem?_getD, hlt]
        clear hbs
        generalize l.getD i noFl = p at *
        generalize begs l i = bg at *
        obtain ⟨L, hL⟩ : ∃ L, L = (List.range l.length).map (begs l) := ⟨_, rfl⟩
        rw [← hL] at HP Hbc
        obtain ⟨B2, hB2⟩ : ∃ B, B = locsB l ++ censB l i := ⟨_, rfl⟩
        rw [← hB2] at HP hBl
        have HE2 := Lib.hid hB2
        have HL := Lib.hid hL
        clear hL hB2
        have HP2 := Lib.hid (HP.out.over ((Below.refl wr.heap.size wr).alloc (Nat.le_refl _) (.cells #[.string p.1, .slice Ai p.2.length ci] 46)))
        have HF2 := Lib.hid (heap_alloc_new wr (.cells #[.string p.1, .slice Ai p.2.length ci] 46))
        go_wp2_with fail
        generalize wr.alloc (.cells #[.string p.1, .slice Ai p.2.length ci] 46) = w2 at *
        generalize wr.heap.size = g6 at *
        clear f1 f2 HP
        refine (mark_any _ _ _ _ _ _ _ HP2.out.wx ⟨#[80, 75, 1, 2]⟩ (by show B2.length + 4 ≤ _; omega) HP2.out.below.size).mono ?_
        rintro e w3 ⟨rfl, hx, hfr⟩
        have HF3 := Lib.hid (hfr.other HF2.out not_w_file)
        obtain ⟨B3, hB⟩ : ∃ X, X = B2 ++ toL ⟨#[80, 75, 1, 2]⟩ := ⟨_, rfl⟩
        have hl3 : B3.length = B2.length + 4 := by rw [hB, List.length_append]; rfl
        have hp := HP2.out.step hx hfr
        rw [← hB] at hp
        have HP3 := Lib.hid hp
        have HE3 := Lib.hid hB
        obtain ⟨Ab, cb, c1, c2, c3⟩ := hp.wx.cells
        unfold FW at c2 c3
        have e0 : w3.cell? ⟨g6, 0, none⟩ = some (.string p.1) := (blk_cells HF3.out).1 0
        have e1 : w3.cell? ⟨g6, 1, none⟩ = some (.slice Ai p.2.length ci) := (blk_cells HF3.out).1 1
        clear hp hx hfr hB HP2 HF2
        clear c1 c3 e0 e1
        go_wp2_with fail
        refine (put2 HP3.out.wx HP3.out.below.size [20, 20, 0, 0, 0, 33] (by decide) (by omega) (by decide) _ rfl _ _ rfl).mono ?_
        rintro e w4 ⟨rfl, hx, hfr⟩
        have HF4 := Lib.hid (hfr.other HF3.out not_w_file)
        obtain ⟨B4, hB⟩ : ∃ X, X = B3 ++ lesB 2 [20, 20, 0, 0, 0, 33] := ⟨_, rfl⟩
        have hl4 : B4.length = B3.length + 12 := by rw [hB, List.length_append]; rw [lesB_length]; rfl
        have hp := HP3.out.step hx hfr
        rw [← hB] at hp
        have HP4 := Lib.hid hp
        have HE4 := Lib.hid hB
        obtain ⟨Ab, cb, c1, c2, c3⟩ := hp.wx.cells
        unfold FW at c2 c3
        have e0 : w4.cell? ⟨g6, 0, none⟩ = some (.string p.1) := (blk_cells HF4.out).1 0
        have e1 : w4.cell? ⟨g6, 1, none⟩ = some (.slice Ai p.2.length ci) := (blk_cells HF4.out).1 1
        clear hp hx hfr hB HP3 HF3
        clear c1 c2 e0
        have HbP := Lib.hid (Bs_below Hbs0.out HP4.out.below)
        have hkc := crcOf_lt p.2
        obtain ⟨kc, hkcE⟩ : ∃ k, k = crcOf p.2 := ⟨_, rfl⟩
        have hcrc := fun w' h => crc_any w' p.2 Ai ci h
        rw [← hkcE] at hcrc hkc
        have HkcE := Lib.hid hkcE
        have Hcrc := Lib.hid hcrc
        clear hkcE hcrc
        have hkw : IntKind.i64.wrap (kc : Int) = kc := by rw [IntKind.wrap_i64]; omega
        go_wp2_with fail
        with_reducible refine g_mix [(0, none), (1, none), (2, none), (3, none), (4, none), (5, none), (8, none), (9, none), (10, none), (11, none), (12, none), (13, none), (6, some false), (7, none), (14, some false), (15, some true)] (fun w' => w'.cell? ⟨gw, 2, none⟩ = some (.func (.func 94) #[] #[.pointer (some ⟨g4, 0, none⟩), .pointer (some ⟨gv, 0, none⟩)]) ∧ w'.cell? ⟨g6, 1, none⟩ = some (.slice Ai p.2.length ci)) (by kernel_rfl) (by kernel_rfl) ?_
        intro OPS
        simp only [mixOf, nthO, consO]
        iterate 12 ((with_reducible refine m_val (v := ?_) ?_ ?_ ?_); rotate_left; (rintro _ ⟨h1, h2⟩; go_simp; first | done | rfl | (constructor <;> rfl)); exact ⟨c3, e1⟩)
        with_reducible refine m_one ?_
        refine l_call ?_ ((Hcrc.out _ (HbP.out.keep (Cells.drewN w4 1))).mono ?_)
        · go_simp
        rintro e wq ⟨rfl, rfl⟩
        refine ⟨_, rfl, ?_⟩
        refine m_keep ⟨c3, e1⟩ ?_
        iterate 1 ((with_reducible refine m_val (v := ?_) ?_ ?_ ?_); rotate_left; (rintro _ ⟨h1, h2⟩; (try simp only [hkw]); go_simp; first | done | rfl | (constructor <;> rfl)); exact ⟨c3, e1⟩)
        with_reducible refine m_one ?_
        iterate 1 (with_reducible refine l_val (v := ?_) (w' := ?_) ?_ ?_; rotate_left 2; (go_simp; first | done | rfl | (constructor <;> rfl)))
        refine m_keep ⟨Cells.alloc _ _ _ _ c3, Cells.alloc _ _ _ _ e1⟩ ?_
        with_reducible refine m_one ?_
        refine l_call ?_ ((put4 (w := w4.drewN 1) (HP4.out.wx.drewN 1) HP4.out.below.size [kc, p.2.length, p.2.length] (by intro n hn; simp only [List.mem_cons, List.not_mem_nil, or_false] at hn; omega) (by omega) (by simp) #[.int .i64 (kc : Nat), .int .i64 (p.2.length : Nat), .int .i64 (p.2.length : Nat)] rfl 3 3 rfl).mono ?_)
        · go_simp
        rintro e w5 ⟨rfl, hx, hfr0⟩
        have hfr := (FrW.drewN w.heap.size w4 1).trans hfr0
        refine ⟨_, rfl, ?_⟩
        with_reducible refine m_last ?_
        with_reducible refine m_end ?_
        simp only [Act.put, List.setIfInBounds_toArray, List.set_cons_zero, List.set_cons_succ]
        clear c3 e1 hfr0
        have HF5 := Lib.hid (hfr.other HF4.out not_w_file)
        obtain ⟨B5, hB⟩ : ∃ X, X = B4 ++ lesB 4 [kc, p.2.length, p.2.length] := ⟨_, rfl⟩
        have hl5 : B5.length = B4.length + 12 := by rw [hB, List.length_append]; rw [lesB_length]; rfl
        have hp := HP4.out.step hx hfr
        rw [← hB] at hp
        have HP5 := Lib.hid hp
        have HE5 := Lib.hid hB
        obtain ⟨Ab, cb, c1, c2, c3⟩ := hp.wx.cells
        unfold FW at c2 c3
        have e0 : w5.cell? ⟨g6, 0, none⟩ = some (.string p.1) := (blk_cells HF5.out).1 0
        have e1 : w5.cell? ⟨g6, 1, none⟩ = some (.slice Ai p.2.length ci) := (blk_cells HF5.out).1 1
        clear hp hx hfr hB HP4 HF4
        clear c1 c3 e1 hkw
        go_wp2_with fail
        with_reducible refine g_mix [(0, none), (1, none), (2, none), (3, none), (4, none), (5, none), (6, none), (7, some false), (8, some true)] (fun w' => w'.cell? ⟨gw, 1, none⟩ = some (.func (.func 94) #[] #[.pointer (some ⟨g2, 0, none⟩), .pointer (some ⟨gv, 0, none⟩)]) ∧ w'.cell? ⟨g6, 0, none⟩ = some (.string p.1)) (by kernel_rfl) (by kernel_rfl) ?_
        intro OPS
        simp only [mixOf, nthO, consO]
        iterate 7 ((with_reducible refine m_val (v := ?_) ?_ ?_ ?_); rotate_left; (rintro _ ⟨h1, h2⟩; go_simp; first | done | rfl | (constructor <;> rfl)); exact ⟨c2, e0⟩)
        with_reducible refine m_one ?_
        iterate 1 (with_reducible refine l_val (v := ?_) (w' := ?_) ?_ ?_; rotate_left 2; (go_simp; first | done | rfl | (constructor <;> rfl)))
        refine m_keep ⟨Cells.alloc _ _ _ _ c2, Cells.alloc _ _ _ _ e0⟩ ?_
        with_reducible refine m_one ?_
        refine l_call ?_ ((put2 (w := w5.drewN 1) (HP5.out.wx.drewN 1) HP5.out.below.size [p.1.size, 0, 0, 0, 0] (by intro n hn; simp only [List.mem_cons, List.not_mem_nil, or_false] at hn; omega) (by omega) (by simp) #[.int .i64 (p.1.size : Nat), .int .i64 0, .int .i64 0, .int .i64 0, .int .i64 0] rfl 5 5 rfl).mono ?_)
        · go_simp
        rintro e w6 ⟨rfl, hx, hfr0⟩
        have hfr := (FrW.drewN w.heap.size w5 1).trans hfr0
        refine ⟨_, rfl, ?_⟩
        with_reducible refine m_last ?_
        with_reducible refine m_end ?_
        simp only [Act.put, List.setIfInBounds_toArray, List.set_cons_zero, List.set_cons_succ]
        clear c2 e0 hfr0
        have HF6 := Lib.hid (hfr.other HF5.out not_w_file)
        obtain ⟨B6, hB⟩ : ∃ X, X = B5 ++ lesB 2 [p.1.size, 0, 0, 0, 0] := ⟨_, rfl⟩
        have hl6 : B6.length = B5.length + 10 := by rw [hB, List.length_append]; rw [lesB_length]; rfl
        have hp := HP5.out.step hx hfr
        rw [← hB] at hp
        have HP6 := Lib.hid hp
        have HE6 := Lib.hid hB
        obtain ⟨Ab, cb, c1, c2, c3⟩ := hp.wx.cells
        unfold FW at c2 c3
        have e0 : w6.cell? ⟨g6, 0, none⟩ = some (.string p.1) := (blk_cells HF6.out).1 0
        have e1 : w6.cell? ⟨g6, 1, none⟩ = some (.slice Ai p.2.length ci) := (blk_cells HF6.out).1 1
        clear hp hx hfr hB HP5 HF5
        clear c1 c2 e0 e1
        have cb9 := Hbc.out _ _ HP6.out
        go_wp2_with fail
        with_reducible refine g_mix [(0, none), (1, none), (2, none), (3, none), (4, none), (5, none), (6, none), (7, none), (8, some false), (9, some true)] (fun w' => w'.cell? ⟨gw, 2, none⟩ = some (.func (.func 94) #[] #[.pointer (some ⟨g4, 0, none⟩), .pointer (some ⟨gv, 0, none⟩)]) ∧ w'.cell? ⟨gi, i, none⟩ = some (.int .i64 (bg : Nat))) (by kernel_rfl) (by kernel_rfl) ?_
        intro OPS
        simp only [mixOf, nthO, consO]
        iterate 8 ((with_reducible refine m_val (v := ?_) ?_ ?_ ?_); rotate_left; (rintro _ ⟨h1, h2⟩; go_simp; first | done | rfl | (constructor <;> rfl)); exact ⟨c3, cb9⟩)
        with_reducible refine m_one ?_
        iterate 1 (with_reducible refine l_val (v := ?_) (w' := ?_) ?_ ?_; rotate_left 2; (go_simp; first | done | rfl | (constructor <;> rfl)))
        refine m_keep ⟨Cells.alloc _ _ _ _ c3, Cells.alloc _ _ _ _ cb9⟩ ?_
        with_reducible refine m_one ?_
        refine l_call ?_ ((put4 (w := w6.drewN 1) (HP6.out.wx.drewN 1) HP6.out.below.size [0, bg] (by intro n hn; simp only [List.mem_cons, List.not_mem_nil, or_false] at hn; omega) (by omega) (by simp) #[.int .i64 0, .int .i64 (bg : Nat)] rfl 2 2 rfl).mono ?_)
        · go_simp
        rintro e w7 ⟨rfl, hx, hfr0⟩
        have hfr := (FrW.drewN w.heap.size w6 1).trans hfr0
        refine ⟨_, rfl, ?_⟩
        with_reducible refine m_last ?_
        with_reducible refine m_end ?_
        simp only [Act.put, List.setIfInBounds_toArray, List.set_cons_zero, List.set_cons_succ]
        clear c3 cb9 hfr0
        have HF7 := Lib.hid (hfr.other HF6.out not_w_file)
        obtain ⟨B7, hB⟩ : ∃ X, X = B6 ++ lesB 4 [0, bg] := ⟨_, rfl⟩
        have hl7 : B7.length = B6.length + 8 := by rw [hB, List.length_append]; rw [lesB_length]; rfl
        have hp := HP6.out.step hx hfr
        rw [← hB] at hp
        have HP7 := Lib.hid hp
        have HE7 := Lib.hid hB
        obtain ⟨Ab, cb, c1, c2, c3⟩ := hp.wx.cells
        unfold FW at c2 c3
        have e0 : w7.cell? ⟨g6, 0, none⟩ = some (.string p.1) := (blk_cells HF7.out).1 0
        have e1 : w7.cell? ⟨g6, 1, none⟩ = some (.slice Ai p.2.length ci) := (blk_cells HF7.out).1 1
        clear hp hx hfr hB HP6 HF6
        clear c1 c2 c3 e1
        go_wp2_with fail
        refine (mark_any _ _ _ _ _ _ _ HP7.out.wx p.1 (by omega) HP7.out.below.size).mono ?_
        rintro e w8 ⟨rfl, hx, hfr⟩
        have HF8 := Lib.hid (hfr.other HF7.out not_w_file)
        obtain ⟨B8, hB⟩ : ∃ X, X = B7 ++ toL p.1 := ⟨_, rfl⟩
        have hl8 : B8.length = B7.length + p.1.size := by rw [hB, List.length_append]; rw [toL_length]
        have hp := HP7.out.step hx hfr
        rw [← hB] at hp
        have HP8 := Lib.hid hp
        have HE8 := Lib.hid hB
        obtain ⟨Ab, cb, c1, c2, c3⟩ := hp.wx.cells
        unfold FW at c2 c3
        have e0 : w8.cell? ⟨g6, 0, none⟩ = some (.string p.1) := (blk_cells HF8.out).1 0
        have e1 : w8.cell? ⟨g6, 1, none⟩ = some (.slice Ai p.2.length ci) := (blk_cells HF8.out).1 1
        clear hp hx hfr hB HP7 HF7
        clear c1 c2 c3 e0 e1
        have Hfin : Hid (Lp2 w gw gv g2 g4 b1 l (.slice (some ⟨gi, 0, none⟩) l.length cv) (.int .i64 ((i : Int) + 1)) w8) := Lib.hid ⟨i + 1, by omega, by simp, by
          have := HP8.out
          rw [HL.out] at this
          rw [show locsB l ++ censB l (i + 1) = B8 by rw [Hst.out, HE8.out, HE7.out, HE6.out, HE5.out, HE4.out, HE3.out, HE2.out, HkcE.out]; simp [cenB, toL]]
          exact this⟩
        clear HP8 HF8
        go_wp2_with fail
        go_roundw
        case rel => exact Hfin.out
        case measure => simp [intOf]; omega
      · obtain rfl : i = l.length := by omega
        obtain ⟨Cn, hC⟩ : ∃ C, C = (censB l l.length).length := ⟨_, rfl⟩
        have hBl : Z + Cn ≤ 3221338112 := by
          have h1 := Hlb.out l.length (Nat.le_refl _)
          rw [List.take_of_length_le (Nat.le_refl _)] at h1
          have h2 := Hcb.out l.length hi
          have h3 := Nat.mul_le_mul_right (30 + 1048576 + 1048576) hl
          have h4 := Nat.mul_le_mul_right (46 + 1048576) hl
          have h5 := HZ.out
          omega
        obtain ⟨B2, hB2⟩ : ∃ B, B = locsB l ++ censB l l.length := ⟨_, rfl⟩
        have hP := HP.out
        rw [← hB2] at hP
        have hl2 : B2.length = Z + Cn := by rw [hB2, List.length_append, HZ.out, hC]
        have HP2 := Lib.hid hP
        have HE2 := Lib.hid hB2
        have HC := Lib.hid hC
        obtain ⟨Ab, cb, c1, c2, c3⟩ := hP.wx.cells
        rw [hl2] at c1
        have hCw : IntKind.i64.wrap (Cn : Int) = Cn := by rw [IntKind.wrap_i64]; omega
        clear c2 c3 hP hB2 HP hC
        go_wp2_with fail
        clear c1
        refine (mark_any _ _ _ _ _ _ _ HP2.out.wx ⟨#[80, 75, 5, 6]⟩ (by show B2.length + 4 ≤ _; omega) HP2.out.below.size).mono ?_
        rintro e w3 ⟨rfl, hx, hfr⟩
        obtain ⟨B3, hB⟩ : ∃ X, X = B2 ++ toL ⟨#[80, 75, 5, 6]⟩ := ⟨_, rfl⟩
        have hl3 : B3.length = B2.length + 4 := by rw [hB, List.length_append]; rfl
        have hp := HP2.out.step hx hfr
        rw [← hB] at hp
        have HP3 := Lib.hid hp
        have HE3 := Lib.hid hB
        obtain ⟨Ab, cb, c1, c2, c3⟩ := hp.wx.cells
        unfold FW at c2 c3
        clear hp hx hfr hB HP2
        clear c1 c3
        go_wp2_with fail
        refine (put2 HP3.out.wx HP3.out.below.size [0, 0, l.length, l.length] (by intro n hn; simp only [List.mem_cons, List.not_mem_nil, or_false] at hn; omega) (by omega) (by simp) _ rfl _ _ rfl).mono ?_
        rintro e w4 ⟨rfl, hx, hfr⟩
        obtain ⟨B4, hB⟩ : ∃ X, X = B3 ++ lesB 2 [0, 0, l.length, l.length] := ⟨_, rfl⟩
        have hl4 : B4.length = B3.length + 8 := by rw [hB, List.length_append]; rw [lesB_length]; rfl
        have hp := HP3.out.step hx hfr
        rw [← hB] at hp
        have HP4 := Lib.hid hp
        have HE4 := Lib.hid hB
        obtain ⟨Ab, cb, c1, c2, c3⟩ := hp.wx.cells
        unfold FW at c2 c3
        clear hp hx hfr hB HP3
        clear c1 c2
        go_wp2_with fail
        rw [show ((Z : Int) + (Cn : Int) - (Z : Int)) = Cn by omega]
        refine (put4 HP4.out.wx HP4.out.below.size [Cn, Z] (by intro n hn; simp only [List.mem_cons, List.not_mem_nil, or_false] at hn; omega) (by omega) (by simp) _ rfl _ _ rfl).mono ?_
        rintro e w5 ⟨rfl, hx, hfr⟩
        obtain ⟨B5, hB⟩ : ∃ X, X = B4 ++ lesB 4 [Cn, Z] := ⟨_, rfl⟩
        have hl5 : B5.length = B4.length + 8 := by rw [hB, List.length_append]; rw [lesB_length]; rfl
        have hp := HP4.out.step hx hfr
        rw [← hB] at hp
        have HP5 := Lib.hid hp
        have HE5 := Lib.hid hB
        obtain ⟨Ab, cb, c1, c2, c3⟩ := hp.wx.cells
        unfold FW at c2 c3
        clear hp hx hfr hB HP4
        clear c1 c3
        go_wp2_with fail
        refine (put2 HP5.out.wx HP5.out.below.size [0] (by decide) (by omega) (by decide) _ rfl _ _ rfl).mono ?_
        rintro e w6 ⟨rfl, hx, hfr⟩
        obtain ⟨B6, hB⟩ : ∃ X, X = B5 ++ lesB 2 [0] := ⟨_, rfl⟩
        have hl6 : B6.length = B5.length + 2 := by rw [hB, List.length_append]; rw [lesB_length]; rfl
        have hp := HP5.out.step hx hfr
        rw [← hB] at hp
        have HP6 := Lib.hid hp
        have HE6 := Lib.hid hB
        obtain ⟨Ab, cb, c1, c2, c3⟩ := hp.wx.cells
        unfold FW at c2 c3
        clear hp hx hfr hB HP5
        clear c1 c2 c3
        have hpk : packB l = B6 := by
          rw [HE6.out, HE5.out, HE4.out, HE3.out, HE2.out, HC.out, HZ.out]
          simp [packB, endB, toL]
        obtain ⟨b6, hWr⟩ := HP6.out.wx
        obtain ⟨Ab, cb, rfl, _, _, _, _⟩ := own_form hWr.row
        have c1 : w6.cell? ⟨gw, 0, none⟩ = some (.slice Ab B6.length cb) := (blk_cells hWr.blk).1 0
        have Hfin : Hid (PkPost w l (.returned (.slice Ab B6.length cb)) w6) := Lib.hid ⟨_, rfl, by rw [hpk]; exact hWr.row, HP6.out.below⟩
        clear hpk hWr HP6 hl6
        go_wp2_with fail
        go_ret
        exact Hfin.out
end Go.Proofs.YtdmladdpbdcpjaaDoor
namespace Go.Proofs.YtdmladdpbdcpjaaDoor
open Go.RowKit

set_option linter.unusedSimpArgs false

attribute [local go_sem] lt1 lt2 lt3 lt4 lt5 lt6

def sumD (l : List Fl) : Nat := (l.map fun p => p.2.length).sum
theorem sumD_take {l : List Fl} {i : Nat} (h : i < l.length) : sumD (l.take (i + 1)) = sumD (l.take i) + (l.getD i noFl).2.length := by
  unfold sumD
  rw [List.take_succ_eq_append_getElem h, List.map_append, List.sum_append]
  simp [List.getD_eq_getElem?_getD, h]
theorem sumD_bound (l : List Fl) (D : Nat) (hd : ∀ p ∈ l, p.2.length ≤ D) : ∀ i, i ≤ l.length → sumD (l.take i) ≤ i * D
  | 0, _ => by simp [sumD]
  | i + 1, h => by
    have ih := sumD_bound l D hd i (by omega)
    rw [sumD_take (by omega), Nat.add_mul, Nat.one_mul]
    have := hd _ (List.mem_of_getElem? (getD_some (show i < l.length by omega)))
    omega
/-- what Pack says of the files l, whose order is L -/
def packErr (l L : List Fl) : Nat :=
  if 100 < l.length then 14 else if namesErr [] (namesOf l) ≠ 0 then namesErr [] (namesOf l) else if 1048576 < sumD l then 13 else if 1048576 < (packB L).length then 13 else 0
def packed (l L : List Fl) : List UInt8 := if packErr l L = 0 then packB L else []
def PackPost (w : World) (l L : List Fl) (e : Ending) (w' : World) : Prop :=
  ∃ v, e = .returned (.tuple #[v, .int .i64 (packErr l L : Nat)]) ∧ w'.ownsRow w.heap.size 5 1 v (packed l L).length (u8s (packed l L)) ∧ Below w.heap.size w w'
theorem pack_fails {w w' : World} {l L : List Fl} {n : Nat} (h : packErr l L = n) (hn : n ≠ 0) (hb : Below w.heap.size w w') : PackPost w l L (.returned (.tuple #[.slice none 0 0, .int .i64 (n : Nat)])) w' := by
  refine ⟨_, by rw [h], ?_, hb⟩
  unfold packed
  rw [if_neg (by rw [h]; exact hn)]
  exact World.ownsRow_nil _ _ _ _
def PcRel (w : World) (l : List Fl) (tv iv : Value) (wr : World) : Prop := ∃ i, i ≤ l.length ∧ iv = .int .i64 (i : Nat) ∧ tv = .int .i64 (sumD (l.take i) : Nat) ∧ Below w.heap.size w wr
set_option maxHeartbeats 4000000 in
set_option maxRecDepth 100000 in
theorem packed_of (w : World) (A : Option Addr) (c : Nat) (l L : List Fl) (hf : FlAt w A c l) (hm : MaxL w) (hs : ∀ p ∈ l, p.1.size ≤ 1048576) (hd : ∀ p ∈ l, p.2.length ≤ 1048576) (hbig : l.length ≤ 1048576)
    (hr : l.length ≤ 100 → namesErr [] (namesOf l) = 0 → (∀ p, p ∈ L → p ∈ l) ∧ L.length = l.length ∧ ∀ w', Below w.heap.size w w' → Calls Tryd.prog 48 #[.slice A l.length c] w' (BnPost w' L)) :
    Calls Tryd.prog 13 #[.slice A l.length c] w (PackPost w l L) := by
  have hn := names_any w A c l hf hbig hs hm
  unfold NmPost at hn
  have Hf := Lib.hid hf
  have Hs := Lib.hid hs
  have Hd := Lib.hid hd
  have Hr := Lib.hid hr
  have Hsb := Lib.hid (sumD_bound l 1048576 hd)
  clear hf hs hd hm hr
  obtain ⟨k, hk⟩ : ∃ k, k = namesErr [] (namesOf l) := ⟨_, rfl⟩
  rw [← hk] at hn
  have Hk := Lib.hid hk
  have Hn := Lib.hid hn
  clear hn hk
  by_cases h100 : 100 < l.length
  · have hI : (100 : Int) < l.length := by omega
    have Hfin := Lib.hid (pack_fails (w := w) (w' := w) (l := l) (L := L) (n := 14) (by unfold packErr; rw [if_pos h100]) (by decide) (Below.refl _ _))
    clear Hn
    go_enter Tryd.func13, Tryd.ntmps13
    go_wp2_with fail
    go_ret2
    exact Hfin.out
  have hI : ¬ (100 : Int) < l.length := by omega
  go_enter Tryd.func13, Tryd.ntmps13
  go_wp2_with fail
  refine Hn.out.mono ?_
  rintro e w1 ⟨rfl, hb⟩
  have Hb := Lib.hid hb
  clear hb Hn
  by_cases hz : k = 0
  · subst hz
    go_wp2_with fail
    go_loopw [5, 19] (fun tv iv wr => PcRel w l tv iv wr) (fun _ iv _ => l.length - (intOf iv).toNat)
    case atStart => exact ⟨0, by omega, rfl, rfl, Hb.out⟩
    case round =>
      clear Hb
      obtain ⟨i, hi, rfl, rfl, hB⟩ := hrel
      have HB := Lib.hid hB
      clear hB
      have hir : (0 : Int) ≤ i := by omega
      by_cases hlt : i < l.length
      · have hlI : (i : Int) < l.length := by omega
        obtain ⟨bb, oo, Ai, ci, rfl, f1, f2, hbs⟩ := (Hf.out.below HB.out).at_ hlt
        have hpd := Hd.out _ (List.mem_of_getElem? (getD_some hlt))
        have Hst := Lib.hid (sumD_take hlt)
        have hsb := Nat.le_trans (Hsb.out i hi) (Nat.mul_le_mul_right _ hi)
        have Hfin : Hid (∀ wr', Below wr.heap.size wr wr' → PcRel w l (.int .i64 ((sumD (l.take i) : Nat) + ((l.getD i noFl).2.length : Nat) : Int)) (.int .i64 ((i : Int) + 1)) wr') := Lib.hid fun wr' hb => ⟨i + 1, by omega, by simp, by rw [Hst.out]; simp, HB.out.trans (hb.mono HB.out.size)⟩
        clear hbs
        generalize l.getD i noFl = p at *
        generalize sumD (l.take i) = sd at *
        go_wp2_with fail
        go_roundw
        case rel => exact Hfin.out _ ((Below.refl _ _).alloc (Nat.le_refl _) _)
        case measure => simp [intOf]; omega
      · obtain rfl : i = l.length := by omega
        have hsb := Hsb.out l.length hi
        rw [List.take_of_length_le (Nat.le_refl _)] at hsb ⊢
        obtain ⟨hmem, hlen, hris⟩ := Hr.out (by omega) Hk.out.symm
        obtain ⟨sd, hsd⟩ : ∃ sd, sd = sumD l := ⟨_, rfl⟩
        rw [← hsd] at hsb ⊢
        have Hsd := Lib.hid hsd
        clear hsd
        by_cases h13 : 1048576 < sd
        · have h13I : (1048576 : Int) < sd := by omega
          have Hfin := Lib.hid (pack_fails (w := w) (w' := wr) (l := l) (L := L) (n := 13) (by unfold packErr; rw [if_neg h100, ← Hk.out, if_neg (by simp), ← Hsd.out, if_pos h13]) (by decide) HB.out)
          clear hmem hlen hris
          go_wp2_with fail
          go_ret2
          exact Hfin.out
        · have h13I : ¬ (1048576 : Int) < sd := by omega
          have Hris := Lib.hid (hris wr HB.out)
          have Hmem := Lib.hid hmem
          have Hlen := Lib.hid hlen
          clear hris hmem hlen
          go_wp2_with fail
          refine Hris.out.mono ?_
          rintro e w2 ⟨v, rfl, hv, hb⟩
          obtain ⟨Az, cz, rfl, hfl⟩ := hv.files
          have Hb2 := Lib.hid (HB.out.trans (hb.mono HB.out.size))
          have Hpk := Lib.hid (pack_any w2 Az cz L hfl (by rw [Hlen.out]; omega) (fun p hp => Hs.out p (Hmem.out p hp)) (fun p hp => Hd.out p (Hmem.out p hp)))
          clear hb hv hfl
          go_wp2_with fail
          refine Hpk.out.mono ?_
          rintro e w3 ⟨v, rfl, hown, hb⟩
          have Hb3 := Lib.hid (Hb2.out.trans (hb.mono Hb2.out.size))
          obtain ⟨N, hN⟩ : ∃ N, N = (packB L).length := ⟨_, rfl⟩
          rw [← hN] at hown
          obtain ⟨Ap, cp, rfl, _, _, _, _⟩ := own_form hown
          have Hown := Lib.hid hown
          have HN := Lib.hid hN
          clear hb hown hN Hpk
          by_cases hL : 1048576 < N
          · have hLI : (1048576 : Int) < N := by omega
            have Hfin := Lib.hid (pack_fails (w := w) (w' := w3) (l := l) (L := L) (n := 13) (by unfold packErr; rw [if_neg h100, ← Hk.out, if_neg (by simp), ← Hsd.out, if_neg h13, ← HN.out, if_pos hL]) (by decide) Hb3.out)
            go_wp2_with fail
            go_ret2
            exact Hfin.out
          · have hLI : ¬ (1048576 : Int) < N := by omega
            have hpe : packErr l L = 0 := by unfold packErr; rw [if_neg h100, ← Hk.out, if_neg (by simp), ← Hsd.out, if_neg h13, ← HN.out, if_neg hL]
            have Hfin : Hid (PackPost w l L (.returned (.tuple #[.slice Ap N cp, .int .i64 0])) w3) := Lib.hid ⟨_, by rw [hpe]; rfl, by
              unfold packed
              rw [if_pos hpe, ← HN.out]
              exact own_base Hown.out Hb2.out.size, Hb3.out⟩
            clear hpe
            go_wp2_with fail
            go_ret2
            exact Hfin.out
  · have hnb : ((k : Int) != 0) = true := by rw [bne_iff_ne]; omega
    have Hfin := Lib.hid (pack_fails (w := w) (w' := w1) (l := l) (L := L) (n := k) (by unfold packErr; rw [if_neg h100, ← Hk.out, if_pos hz]) hz Hb.out)
    clear hz
    go_wp2_with fail
    go_ret2
    exact Hfin.out
end Go.Proofs.YtdmladdpbdcpjaaDoor
