/-
  ArkTells: is a file of the same name and hash there? (Printed by wip/abexp.py.)
-/
import Derived.Test.YtfbdjfljgcfikaaDoorArkTlA
import Derived.Test.YtfbdjfljgcfikaaDoorArkFirst
import Derived.Test.YtfbdjfljgcfikaaDoorArkFiles2
namespace Go.Proofs.YtfbdjfljgcfikaaDoor
open Go.RowKit

set_option linter.unusedSimpArgs false

attribute [local go_sem] lt1 lt2 lt3 lt4 lt5 lt6

def Tl1 (w : World) (l k : List Fl) (sv iv : Value) (wr : World) : Prop :=
  ∃ (i : Nat) (sm : Bool), i ≤ l.length ∧ iv = .int .i64 i ∧ sv = .bool sm ∧ (sm = true → l.length = k.length ∧ ∀ j, j < i → foundB k (l.getD j noFl) k.length = true) ∧ Below w.heap.size w wr
def Tl2 (w : World) (k : List Fl) (x : Fl) (fv jv : Value) (wr : World) : Prop :=
  ∃ (j : Nat), j ≤ k.length ∧ jv = .int .i64 j ∧ fv = .bool (foundB k x j) ∧ Below w.heap.size w wr
def Tl3 (w : World) (l : List Fl) (iv : Value) (wr : World) : Prop :=
  ∃ (i : Nat), i ≤ l.length ∧ iv = .int .i64 i ∧ (∀ j, j < i → (l.getD j noFl).1.toList.isEmpty = false) ∧ Below w.heap.size w wr
def TlPost (w : World) (e : Ending) (w' : World) : Prop := e = .returned (.bool true) ∧ Below w.heap.size w w'
theorem sumFl_mem' {l : List Fl} : ∀ p ∈ l, p.2.length + p.1.size ≤ sumFl l := by
  induction l with
  | nil => simp
  | cons q l ih =>
    intro p hp
    have e : sumFl (q :: l) = q.2.length + q.1.size + sumFl l := rfl
    rcases List.mem_cons.1 hp with rfl | hp
    · omega
    · have := ih p hp; omega
set_option maxHeartbeats 8000000 in
set_option maxRecDepth 100000 in
theorem tells_any (w : World) (A K : Option Addr) (c d : Nat) (l k : List Fl) (p v : ByteArray) (hm : MaxL w) (hf : FlAt w A c l) (hg : FlAt w K d k) (hsz : ∀ f ∈ l, f.1.size ≤ maxLen) (hsk : ∀ f ∈ k, f.1.size ≤ maxLen) :
    Calls Tryd.prog 4 #[.slice A l.length c, .slice K k.length d, .agg #[.string p, .string v]] w (TlPost w) := by
  have Hm := Lib.hid hm
  have Hf := Lib.hid hf
  have Hg := Lib.hid hg
  have Hsz := Lib.hid hsz
  have Hsk := Lib.hid hsk
  have hll : l.length ≤ 9223372036854775807 := by have h1 := hf.le; have h2 := hf.big; unfold maxLen at h2; omega
  have hkl : k.length ≤ 9223372036854775807 := by have h1 := hg.le; have h2 := hg.big; unfold maxLen at h2; omega
  clear hm hf hg hsz hsk
  go_enter Tryd.func4, Tryd.ntmps4
  go_wp2_with fail
  obtain ⟨gm, hgm⟩ : ∃ gm, gm = w.heap.size := ⟨_, rfl⟩
  have hb0 : Below w.heap.size w (w.alloc (.cells #[.string p, .string v] 24)) := (Below.refl _ _).alloc (Nat.le_refl _) _
  have hM0 : (w.alloc (.cells #[.string p, .string v] 24)).heap[gm]? = some (.cells #[.string p, .string v] 24 (0, 0)) := by rw [hgm]; exact heap_alloc_new _ _
  rw [← hgm]
  generalize w.alloc (.cells #[.string p, .string v] 24) = w0 at *
  have Hb0 := Lib.hid hb0
  have HM0 := Lib.hid hM0
  clear hb0 hM0 hgm
  refine (first_any w0 (Hm.out.below Hb0.out)).mono ?_
  rintro e w1 ⟨rfl, hb⟩
  have Hb := Lib.hid (Hb0.out.trans (hb.mono Hb0.out.size))
  have HM1 := Lib.hid ((hb.block _ (lt_of_heap HM0.out)).trans HM0.out)
  clear hb HM0
  go_wp2_with fail
  refine (few_any w1 A c l 4000 (by omega) (Hf.out.below Hb.out) Hsz.out).mono ?_
  rintro e w2 ⟨rfl, rfl⟩
  by_cases hfew : sumFl l ≤ 4000
  case neg =>
    rw [decide_eq_false hfew]
    clear hfew
    go_wp2_with fail
    go_ret
    exact ⟨rfl, Hb.out⟩
  rw [decide_eq_true hfew]
  have hmem := fun f hf => Nat.le_trans (sumFl_mem' (l := l) f hf) hfew
  have Hmem := Lib.hid hmem
  clear hfew hmem
  go_wp2_with fail
  refine (few_any w1 K d k 4000 (by omega) (Hg.out.below Hb.out) Hsk.out).mono ?_
  rintro e w2 ⟨rfl, rfl⟩
  by_cases hfew : sumFl k ≤ 4000
  case neg =>
    rw [decide_eq_false hfew]
    clear hfew
    go_wp2_with fail
    go_ret
    exact ⟨rfl, Hb.out⟩
  rw [decide_eq_true hfew]
  have hmem := fun f hf => Nat.le_trans (sumFl_mem' (l := k) f hf) hfew
  have Hmek := Lib.hid hmem
  clear hfew hmem
  have E3 : Hid (w1.cell? ⟨gm, 0, none⟩ = some (.string p)) := Lib.hid ((blk_cells HM1.out).1 0)
  have E4 : Hid (w1.cell? ⟨gm, 1, none⟩ = some (.string v)) := Lib.hid ((blk_cells HM1.out).1 1)
  have e3 := E3.out
  have e4 := E4.out
  by_cases h1 : 110 < l.length
  · have hI : (110 : Int) < l.length := by omega
    go_wp2_with fail
    go_ret
    exact ⟨rfl, Hb.out⟩
  have hI1 : ¬ (110 : Int) < l.length := by omega
  by_cases h2 : 110 < k.length
  · have hI : (110 : Int) < k.length := by omega
    go_wp2_with fail
    go_ret
    exact ⟨rfl, Hb.out⟩
  have hI2 : ¬ (110 : Int) < k.length := by omega
  by_cases h3 : 200 < p.size
  · have hI : (200 : Int) < p.size := by omega
    go_wp2_with fail
    go_ret
    exact ⟨rfl, Hb.out⟩
  have hI3 : ¬ (200 : Int) < p.size := by omega
  by_cases h4 : 200 < v.size
  · have hI : (200 : Int) < v.size := by omega
    go_wp2_with fail
    go_ret
    exact ⟨rfl, Hb.out⟩
  have hI4 : ¬ (200 : Int) < v.size := by omega
  go_wp2_with fail
  clear e3 e4
  refine (h1_any w1 A c l (Hf.out.below Hb.out) (Hm.out.below Hb.out) (by omega) (fun f hf => by have := Hmem.out f hf; omega) (fun f hf => by have := Hmem.out f hf; omega)).mono ?_
  rintro e w2 ⟨rfl, hb2⟩
  have Hb2 := Lib.hid (Hb.out.trans (hb2.mono Hb.out.size))
  have HM2 := Lib.hid ((hb2.block _ (lt_of_heap HM1.out)).trans HM1.out)
  clear hb2 HM1 E3 E4
  obtain ⟨S1, hS1⟩ : ∃ S : ByteArray, S = ⟨(if namesErr [] (namesOf l) = 0 then sumOf (byName l) else []).toArray⟩ := ⟨_, rfl⟩
  rw [← hS1]
  obtain ⟨q1, hq1⟩ : ∃ q, q = namesErr [] (namesOf l) := ⟨_, rfl⟩
  rw [← hq1]
  have HS1 := Lib.hid hS1
  have Hq1 := Lib.hid hq1
  clear hS1 hq1
  go_wp2_with fail
  refine (h1_any w2 K d k (Hg.out.below Hb2.out) (Hm.out.below Hb2.out) (by omega) (fun f hf => by have := Hmek.out f hf; omega) (fun f hf => by have := Hmek.out f hf; omega)).mono ?_
  rintro e w3 ⟨rfl, hb3⟩
  have Hb3 := Lib.hid (Hb2.out.trans (hb3.mono Hb2.out.size))
  have HM3 := Lib.hid ((hb3.block _ (lt_of_heap HM2.out)).trans HM2.out)
  clear hb3 HM2
  obtain ⟨S2, hS2⟩ : ∃ S : ByteArray, S = ⟨(if namesErr [] (namesOf k) = 0 then sumOf (byName k) else []).toArray⟩ := ⟨_, rfl⟩
  rw [← hS2]
  obtain ⟨q2, hq2⟩ : ∃ q, q = namesErr [] (namesOf k) := ⟨_, rfl⟩
  rw [← hq2]
  have HS2 := Lib.hid hS2
  have Hq2 := Lib.hid hq2
  clear hS2 hq2
  have H1 : Hid (Tl1 w3 l k (.bool ((l.length : Int) == (k.length : Int))) (.int .i64 0) w3) := Lib.hid ⟨0, _, by omega, rfl, rfl, fun h => ⟨by rw [beq_iff_eq] at h; omega, fun j hj => absurd hj (by omega)⟩, Below.refl _ _⟩
  go_wp2_with fail
  go_loopw [13, 14] (fun sv iv wr => Tl1 w3 l k sv iv wr) (fun sv iv _ => 2 * (l.length - (intOf iv).toNat) + (match sv with | .bool true => 1 | _ => 0))
  case atStart => exact H1.out
  case round =>
    clear H1
    obtain ⟨i, sm, hi, rfl, rfl, hsm, hB⟩ := hrel
    have Hsm := Lib.hid hsm
    have HB := Lib.hid hB
    have hBw := Hb3.out.trans (hB.mono Hb3.out.size)
    have HBw := Lib.hid hBw
    clear hsm hB hBw
    by_cases hlt : i < l.length
    · have hlI : (i : Int) < l.length := by omega
      cases sm with
      | true =>
        have hir : (0 : Int) ≤ i := by omega
        obtain ⟨bb, oo, Ai, ci, rfl, f1, f2, hbs⟩ := (Hf.out.below HBw.out).at_ hlt
        have hxm := Hmem.out _ (List.mem_of_getElem? (getD_some hlt))
        have HF1 := Lib.hid f1
        have HF2 := Lib.hid f2
        have Hbs := Lib.hid hbs
        obtain ⟨x, hx⟩ : ∃ x, x = l.getD i noFl := ⟨_, rfl⟩
        rw [← hx] at HF1 HF2 Hbs hxm
        have Hx := Lib.hid hx
        clear f1 f2 hbs hx
        have H2 : Hid (Tl2 wr k x (.bool false) (.int .i64 0) wr) := Lib.hid ⟨0, by omega, rfl, rfl, Below.refl _ _⟩
        go_wp2_with fail
        obtain ⟨wo, rfl⟩ : ∃ wo : World, wo = wr := ⟨_, rfl⟩
        go_loopw [15, 16] (fun fv jv wr => Tl2 wo k x fv jv wr) (fun _ jv _ => k.length - (intOf jv).toNat)
        case atStart => exact H2.out
        case round =>
          clear H2
          obtain ⟨j, hj, rfl, rfl, hB2⟩ := hrel
          have HB2 := Lib.hid hB2
          clear hB2
          by_cases hjl : j < k.length
          · have hjI : (j : Int) < k.length := by omega
            have hjr : (0 : Int) ≤ j := by omega
            obtain ⟨bk, ok, Ay, cy, rfl, g1, g2, hbk⟩ := (Hg.out.below HBw.out).at_ hjl
            have hym := Hmek.out _ (List.mem_of_getElem? (getD_some hjl))
            obtain ⟨y, hy⟩ : ∃ y, y = k.getD j noFl := ⟨_, rfl⟩
            rw [← hy] at g1 g2 hbk hym
            have Hy := Lib.hid hy
            have hcB := Cells.of_below HB2.out
            have C1 := Lib.hid (hcB _ _ g1)
            have C2 := Lib.hid (hcB _ _ g2)
            have D1 := Lib.hid (hcB _ _ HF1.out)
            have D2 := Lib.hid (hcB _ _ HF2.out)
            have Hbk := Lib.hid hbk
            have Hbx := Lib.hid Hbs.out
            have HB2d : Hid (Below wo.heap.size wo wr.drew) := Lib.hid ⟨HB2.out.os, HB2.out.tape, HB2.out.output, HB2.out.size, HB2.out.block⟩
            clear g1 g2 hbk hcB hy
            cases hfd : foundB k x j with
            | true =>
              go_wp2_with fail
              have Hfin : Hid (Tl2 wo k x (.bool true) (.int .i64 ((j : Int) + 1)) wr.drew) := Lib.hid ⟨j + 1, by omega, by simp, by rw [foundB, hfd]; rfl, ⟨HB2.out.os, HB2.out.tape, HB2.out.output, HB2.out.size, HB2.out.block⟩⟩
              with_reducible refine g_mixy [(0, 0), (1, 0), (2, 0), (3, 0), (4, 0), (5, 0), (6, 0), (7, 0), (8, 0), (9, 0), (10, 0), (11, 0), (12, 0), (13, 0), (14, 0), (15, 0), (16, 0), (17, 0), (18, 0), (20, 0), (21, 0), (22, 0), (23, 0), (24, 0), (19, 2), (25, 2), (26, 2), (27, 0), (28, 0), (29, 0)] (fun w' => (w'.cell? ⟨bk, ok + j * 2, none⟩ = some (.string y.1) ∧ w'.cell? ⟨bk, ok + j * 2 + 1, none⟩ = some (.slice Ay y.2.length cy)) ∧ w'.cell? ⟨bb, oo + i * 2, none⟩ = some (.string x.1) ∧ w'.cell? ⟨bb, oo + i * 2 + 1, none⟩ = some (.slice Ai x.2.length ci)) (by kernel_rfl) (by kernel_rfl) ?_ ?_
              · exact ⟨⟨C1.out, C2.out⟩, D1.out, D2.out⟩
              intro OPS HDD
              have C1 : Hid (wr.drew.cell? ⟨bk, ok + j * 2, none⟩ = some (.string y.1)) := C1
              have C2 : Hid (wr.drew.cell? ⟨bk, ok + j * 2 + 1, none⟩ = some (.slice Ay y.2.length cy)) := C2
              have D1 : Hid (wr.drew.cell? ⟨bb, oo + i * 2, none⟩ = some (.string x.1)) := D1
              have D2 : Hid (wr.drew.cell? ⟨bb, oo + i * 2 + 1, none⟩ = some (.slice Ai x.2.length ci)) := D2
              have HD1 : (OPS[1]?).bind (·.dst) = some 87 := HDD 1
              have HD13 : (OPS[13]?).bind (·.dst) = some 99 := HDD 13
              simp only [mixX, nthO, consX]
              iterate 2 ((with_reducible refine x_val (v := ?_) ?_ ?_ ?_); rotate_left; (rintro _ _; (try simp only [hfd]); go_simp; first | done | rfl | (constructor <;> rfl)); exact ⟨⟨C1.out, C2.out⟩, D1.out, D2.out⟩)
              iterate 12 (with_reducible refine x_outg (c := true) HD1 (by go_simp) rfl ⟨⟨C1.out, C2.out⟩, D1.out, D2.out⟩ ?_)
              iterate 10 (with_reducible refine x_outu HD13 (by go_simp) ⟨⟨C1.out, C2.out⟩, D1.out, D2.out⟩ ?_)
              iterate 3 (with_reducible refine x_onegu HD13 (by go_simp) ⟨⟨C1.out, C2.out⟩, D1.out, D2.out⟩ ?_)
              with_reducible refine x_outg (c := true) HD1 (by go_simp) rfl ⟨⟨C1.out, C2.out⟩, D1.out, D2.out⟩ ?_
              iterate 2 ((with_reducible refine x_val (v := ?_) ?_ ?_ ?_); rotate_left; (rintro _ _; (try simp only [hfd]); go_simp; first | done | rfl | (constructor <;> rfl)); exact ⟨⟨C1.out, C2.out⟩, D1.out, D2.out⟩)
              with_reducible refine x_end ?_
              simp only [Act.put, List.setIfInBounds_toArray, List.set_cons_zero, List.set_cons_succ]
              go_wp2_with fail
              go_roundw
              case rel => exact Hfin.out
              case measure => simp [intOf]; omega
            | false =>
              cases hnb : (y.1.toList == x.1.toList) with
              | false =>
                go_wp2_with fail
                have Hfin : Hid (Tl2 wo k x (.bool false) (.int .i64 ((j : Int) + 1)) wr.drew) := Lib.hid ⟨j + 1, by omega, by simp, by rw [foundB, hfd, ← Hy.out, hnb]; rfl, ⟨HB2.out.os, HB2.out.tape, HB2.out.output, HB2.out.size, HB2.out.block⟩⟩
                with_reducible refine g_mixy [(0, 0), (1, 0), (2, 0), (3, 0), (4, 0), (5, 0), (6, 0), (7, 0), (8, 0), (9, 0), (10, 0), (11, 0), (12, 0), (13, 0), (14, 0), (15, 0), (16, 0), (17, 0), (18, 0), (20, 0), (21, 0), (22, 0), (23, 0), (24, 0), (19, 2), (25, 2), (26, 2), (27, 0), (28, 0), (29, 0)] (fun w' => (w'.cell? ⟨bk, ok + j * 2, none⟩ = some (.string y.1) ∧ w'.cell? ⟨bk, ok + j * 2 + 1, none⟩ = some (.slice Ay y.2.length cy)) ∧ w'.cell? ⟨bb, oo + i * 2, none⟩ = some (.string x.1) ∧ w'.cell? ⟨bb, oo + i * 2 + 1, none⟩ = some (.slice Ai x.2.length ci)) (by kernel_rfl) (by kernel_rfl) ?_ ?_
                · exact ⟨⟨C1.out, C2.out⟩, D1.out, D2.out⟩
                intro OPS HDD
                have C1 : Hid (wr.drew.cell? ⟨bk, ok + j * 2, none⟩ = some (.string y.1)) := C1
                have C2 : Hid (wr.drew.cell? ⟨bk, ok + j * 2 + 1, none⟩ = some (.slice Ay y.2.length cy)) := C2
                have D1 : Hid (wr.drew.cell? ⟨bb, oo + i * 2, none⟩ = some (.string x.1)) := D1
                have D2 : Hid (wr.drew.cell? ⟨bb, oo + i * 2 + 1, none⟩ = some (.slice Ai x.2.length ci)) := D2
                have HD1 : (OPS[1]?).bind (·.dst) = some 87 := HDD 1
                have HD13 : (OPS[13]?).bind (·.dst) = some 99 := HDD 13
                simp only [mixX, nthO, consX]
                iterate 2 ((with_reducible refine x_val (v := ?_) ?_ ?_ ?_); rotate_left; (rintro _ _; (try simp only [hfd]); go_simp; first | done | rfl | (constructor <;> rfl)); exact ⟨⟨C1.out, C2.out⟩, D1.out, D2.out⟩)
                have HD := HD1
                iterate 12 ((with_reducible refine x_valg (v := ?_) HD ?_ ?_ ?_ ?_); rotate_left; go_simp; (rintro _ ⟨⟨c1, c2⟩, d1, d2⟩; (try simp only [hnb]); go_simp; first | done | rfl | (constructor <;> rfl)); exact ⟨⟨C1.out, C2.out⟩, D1.out, D2.out⟩)
                iterate 10 (with_reducible refine x_outg (c := false) HD13 (by go_simp) rfl ⟨⟨C1.out, C2.out⟩, D1.out, D2.out⟩ ?_)
                iterate 3 (with_reducible refine x_oneg (c := false) HD13 (by go_simp) rfl ⟨⟨C1.out, C2.out⟩, D1.out, D2.out⟩ ?_)
                iterate 1 ((with_reducible refine x_valg (v := ?_) HD ?_ ?_ ?_ ?_); rotate_left; go_simp; (rintro _ _; (try simp only [hnb]); go_simp; first | done | rfl | (constructor <;> rfl)); exact ⟨⟨C1.out, C2.out⟩, D1.out, D2.out⟩)
                iterate 2 ((with_reducible refine x_val (v := ?_) ?_ ?_ ?_); rotate_left; (rintro _ _; (try simp only [hnb]); go_simp; first | done | rfl | (constructor <;> rfl)); exact ⟨⟨C1.out, C2.out⟩, D1.out, D2.out⟩)
                with_reducible refine x_end ?_
                simp only [Act.put, List.setIfInBounds_toArray, List.set_cons_zero, List.set_cons_succ]
                go_wp2_with fail
                go_roundw
                case rel => exact Hfin.out
                case measure => simp [intOf]; omega
              | true =>
                go_wp2_with fail
                with_reducible refine g_mixy [(0, 0), (1, 0), (2, 0), (3, 0), (4, 0), (5, 0), (6, 0), (7, 0), (8, 0), (9, 0), (10, 0), (11, 0), (12, 0), (13, 0), (14, 0), (15, 0), (16, 0), (17, 0), (18, 0), (20, 0), (21, 0), (22, 0), (23, 0), (24, 0), (19, 2), (25, 2), (26, 2), (27, 0), (28, 0), (29, 0)] (fun w' => (w'.cell? ⟨bk, ok + j * 2, none⟩ = some (.string y.1) ∧ w'.cell? ⟨bk, ok + j * 2 + 1, none⟩ = some (.slice Ay y.2.length cy)) ∧ w'.cell? ⟨bb, oo + i * 2, none⟩ = some (.string x.1) ∧ w'.cell? ⟨bb, oo + i * 2 + 1, none⟩ = some (.slice Ai x.2.length ci)) (by kernel_rfl) (by kernel_rfl) ?_ ?_
                · exact ⟨⟨C1.out, C2.out⟩, D1.out, D2.out⟩
                intro OPS HDD
                have C1 : Hid (wr.drew.cell? ⟨bk, ok + j * 2, none⟩ = some (.string y.1)) := C1
                have C2 : Hid (wr.drew.cell? ⟨bk, ok + j * 2 + 1, none⟩ = some (.slice Ay y.2.length cy)) := C2
                have D1 : Hid (wr.drew.cell? ⟨bb, oo + i * 2, none⟩ = some (.string x.1)) := D1
                have D2 : Hid (wr.drew.cell? ⟨bb, oo + i * 2 + 1, none⟩ = some (.slice Ai x.2.length ci)) := D2
                have HD1 : (OPS[1]?).bind (·.dst) = some 87 := HDD 1
                have HD13 : (OPS[13]?).bind (·.dst) = some 99 := HDD 13
                simp only [mixX, nthO, consX]
                iterate 2 ((with_reducible refine x_val (v := ?_) ?_ ?_ ?_); rotate_left; (rintro _ _; (try simp only [hfd]); go_simp; first | done | rfl | (constructor <;> rfl)); exact ⟨⟨C1.out, C2.out⟩, D1.out, D2.out⟩)
                have HD := HD1
                iterate 12 ((with_reducible refine x_valg (v := ?_) HD ?_ ?_ ?_ ?_); rotate_left; go_simp; (rintro _ ⟨⟨c1, c2⟩, d1, d2⟩; (try simp only [hnb]); go_simp; first | done | rfl | (constructor <;> rfl)); exact ⟨⟨C1.out, C2.out⟩, D1.out, D2.out⟩)
                have HD := HD13
                iterate 10 ((with_reducible refine x_valg (v := ?_) HD ?_ ?_ ?_ ?_); rotate_left; go_simp; (rintro _ ⟨⟨c1, c2⟩, d1, d2⟩; (try simp only [hnb]); go_simp; first | done | rfl | (constructor <;> rfl)); exact ⟨⟨C1.out, C2.out⟩, D1.out, D2.out⟩)
                with_reducible refine x_one ?_
                refine l_onceg HD (by go_simp) ?_
                refine l_call ?_ ((sha_any wr.drew y.2 Ay cy (Hbk.out.keep (Cells.of_below HB2d.out)) (by omega)).mono ?_)
                · go_simp
                rintro e w5 ⟨v5, rfl, hown5, hb5⟩
                obtain ⟨A5, c5, rfl, hbs5⟩ := own_bs hown5
                have hc5 := Cells.of_below hb5
                have C1 := Lib.hid (hc5 _ _ C1.out)
                have C2 := Lib.hid (hc5 _ _ C2.out)
                have D1 := Lib.hid (hc5 _ _ D1.out)
                have D2 := Lib.hid (hc5 _ _ D2.out)
                have Hb5 := Lib.hid (HB2d.out.trans (hb5.mono HB2d.out.size))
                have Hbs5 := Lib.hid hbs5
                clear hown5 hbs5 hc5 hb5
                refine ⟨_, rfl, ?_⟩
                refine x_keep ⟨⟨C1.out, C2.out⟩, D1.out, D2.out⟩ ?_
                with_reducible refine x_one ?_
                refine l_onceg HD (by go_simp) ?_
                refine l_call ?_ ((sha_any w5 x.2 Ai ci (Hbx.out.keep (Cells.of_below Hb5.out)) (by omega)).mono ?_)
                · go_simp
                rintro e w6 ⟨v6, rfl, hown6, hb6⟩
                obtain ⟨A6, c6, rfl, hbs6⟩ := own_bs hown6
                have hc6 := Cells.of_below hb6
                have C1 := Lib.hid (hc6 _ _ C1.out)
                have C2 := Lib.hid (hc6 _ _ C2.out)
                have D1 := Lib.hid (hc6 _ _ D1.out)
                have D2 := Lib.hid (hc6 _ _ D2.out)
                have Hb6 := Lib.hid (Hb5.out.trans (hb6.mono Hb5.out.size))
                have hsm := same_any (sha y.2) (sha x.2) A5 A6 c5 c6 w6 (Hbs5.out.keep hc6) hbs6
                have Hsame := Lib.hid hsm
                clear hown6 hbs6 hc6 hb6 hsm
                refine ⟨_, rfl, ?_⟩
                refine x_keep ⟨⟨C1.out, C2.out⟩, D1.out, D2.out⟩ ?_
                with_reducible refine x_one ?_
                refine l_onceg HD (by go_simp) ?_
                refine l_call ?_ (Hsame.out.mono ?_)
                · go_simp
                rintro e w7 ⟨rfl, nd, rfl⟩
                have Hfin : Hid (Tl2 wo k x (.bool (sha y.2 == sha x.2)) (.int .i64 ((j : Int) + 1)) (w6.drewN nd)) := Lib.hid ⟨j + 1, by omega, by simp, by rw [foundB, hfd, ← Hy.out, hnb]; rfl, ⟨Hb6.out.os, Hb6.out.tape, Hb6.out.output, Hb6.out.size, Hb6.out.block⟩⟩
                generalize (sha y.2 == sha x.2) = sb at *
                have C1 : Hid ((w6.drewN nd).cell? ⟨bk, ok + j * 2, none⟩ = some (.string y.1)) := C1
                have C2 : Hid ((w6.drewN nd).cell? ⟨bk, ok + j * 2 + 1, none⟩ = some (.slice Ay y.2.length cy)) := C2
                have D1 : Hid ((w6.drewN nd).cell? ⟨bb, oo + i * 2, none⟩ = some (.string x.1)) := D1
                have D2 : Hid ((w6.drewN nd).cell? ⟨bb, oo + i * 2 + 1, none⟩ = some (.slice Ai x.2.length ci)) := D2
                refine ⟨_, rfl, ?_⟩
                refine x_keep ⟨⟨C1.out, C2.out⟩, D1.out, D2.out⟩ ?_
                have HD := HD1
                iterate 1 ((with_reducible refine x_valg (v := ?_) HD ?_ ?_ ?_ ?_); rotate_left; go_simp; (rintro _ _; (try simp only [hnb]); go_simp; first | done | rfl | (constructor <;> rfl)); exact ⟨⟨C1.out, C2.out⟩, D1.out, D2.out⟩)
                iterate 2 ((with_reducible refine x_val (v := ?_) ?_ ?_ ?_); rotate_left; (rintro _ _; (try simp only [hnb]); go_simp; first | done | rfl | (constructor <;> rfl)); exact ⟨⟨C1.out, C2.out⟩, D1.out, D2.out⟩)
                with_reducible refine x_end ?_
                simp only [Act.put, List.setIfInBounds_toArray, List.set_cons_zero, List.set_cons_succ]
                go_wp2_with fail
                go_roundw
                case rel => exact Hfin.out
                case measure => simp [intOf]; omega
          · have hjI : ¬ (j : Int) < k.length := by omega
            obtain rfl : j = k.length := by omega
            obtain ⟨fb, hfb⟩ : ∃ fb, fb = foundB k x k.length := ⟨_, rfl⟩
            rw [← hfb]
            obtain ⟨hlen, hfnd⟩ := Hsm.out trivial
            have Hfin : Hid (Tl1 w3 l k (.bool fb) (.int .i64 ((i : Int) + 1)) wr) := Lib.hid ⟨i + 1, fb, by omega, by simp, rfl, fun h => ⟨hlen, fun j hj => by
              by_cases e : j = i
              · subst e; rw [← Hx.out, ← hfb]; exact h
              · exact hfnd j (by omega)⟩, HB.out.trans (HB2.out.mono HB.out.size)⟩
            clear hfb hlen hfnd
            go_wp2_with fail
            refine ⟨Hfin.out, ?_⟩
            cases fb <;> simp only [intOf] <;> omega
      | false =>
        by_cases hq1 : q1 = 0
        case neg =>
          have e1 : ((q1 : Int) == 0) = false := by rw [beq_eq_false_iff_ne]; omega
          clear hq1
          have H3 : Hid (Tl3 w3 l (.int .i64 0) wr) := Lib.hid ⟨0, by omega, rfl, fun j hj => absurd hj (by omega), HB.out⟩
          go_wp2_with fail
          refine (num_any _ _).mono ?_
          rintro e w4 ⟨rfl, rfl⟩
          go_wp2_with fail
          go_loopw [17] (fun iv wr => Tl3 w3 l iv wr) (fun iv _ => l.length - (intOf iv).toNat)
          case atStart => exact H3.out
          case round =>
            clear H3
            obtain ⟨z, hz, rfl, hze, hzB⟩ := hrel
            have Hze := Lib.hid hze
            have HzB := Lib.hid hzB
            have HzW := Lib.hid (Hb3.out.trans (hzB.mono Hb3.out.size))
            clear hze hzB
            by_cases hzl : z < l.length
            · have hzI : (z : Int) < l.length := by omega
              have hzr : (0 : Int) ≤ z := by omega
              obtain ⟨bb, oo, Ai, ci, rfl, f1, _, _⟩ := (Hf.out.below HzW.out).at_ hzl
              obtain ⟨fz, hfz⟩ : ∃ fz, fz = l.getD z noFl := ⟨_, rfl⟩
              rw [← hfz] at f1
              have Hfz := Lib.hid hfz
              clear hfz
              cases hte : fz.1.toList.isEmpty with
              | true =>
                have hte2 : fz.1.toList = [] := by simpa using hte
                go_wp2_with fail
                all_goals (go_ret; exact ⟨rfl, HzW.out⟩)
              | false =>
                have hte2 : ¬ fz.1.toList = [] := by intro h; rw [h] at hte; cases hte
                have hnew : ∀ j, j < z + 1 → (l.getD j noFl).1.toList.isEmpty = false := fun j hj => by
                  by_cases e : j = z
                  · subst e; rw [← Hfz.out]; exact hte
                  · exact Hze.out j (by omega)
                have Hnew := Lib.hid hnew
                clear hnew
                go_wp2_with fail
                go_roundw
                case rel => exact ⟨z + 1, by omega, by simp, Hnew.out, HzB.out⟩
                case measure => simp [intOf]; omega
            · obtain rfl : z = l.length := by omega
              have hall : ∀ f ∈ l, f.1.toList.isEmpty = false := fun f hf => by
                obtain ⟨j, hj, rfl⟩ := List.getElem_of_mem hf
                have := Hze.out j hj
                simpa [List.getD_eq_getElem?_getD, hj] using this
              have Hst := Lib.hid (strip_add p v l hall)
              have hM : wr.heap[gm]? = some (.cells #[.string p, .string v] 24 (0, 0)) := (HzB.out.block _ (lt_of_heap HM3.out)).trans HM3.out
              have E3 : Hid (wr.cell? ⟨gm, 0, none⟩ = some (.string p)) := Lib.hid ((blk_cells hM).1 0)
              have E4 : Hid (wr.cell? ⟨gm, 1, none⟩ = some (.string v)) := Lib.hid ((blk_cells hM).1 1)
              clear hall hM
              go_wp2_with fail
              with_reducible refine g_mixx [(0, 0), (1, 0), (3, 0), (2, 2), (4, 2), (5, 0), (6, 0), (7, 0), (8, 0), (9, 0)] (fun w' => w'.cell? ⟨gm, 0, none⟩ = some (.string p) ∧ w'.cell? ⟨gm, 1, none⟩ = some (.string v)) 0 _ rfl (by kernel_rfl) (by kernel_rfl) ?_ ?_
              · exact ⟨E3.out, E4.out⟩
              intro OPS HD
              simp only [mixX, nthO, consX]
              iterate 3 ((with_reducible refine x_val (v := ?_) ?_ ?_ ?_); rotate_left; (rintro _ ⟨h3, h4⟩; go_simp; first | done | rfl | (constructor <;> rfl)); exact ⟨E3.out, E4.out⟩)
              have hbd : Below w.heap.size w wr.drew := ⟨HzW.out.os, HzW.out.tape, HzW.out.output, HzW.out.size, HzW.out.block⟩
              with_reducible refine x_one ?_
              refine l_call ?_ ((add_any wr.drew A c l p v (Hf.out.below hbd) (by omega) (by omega) (by omega) (fun f hf => by have := Hmem.out f hf; omega) (fun f hf => by have := Hmem.out f hf; omega)).mono ?_)
              · go_simp
              rintro e w5 ⟨x5, rfl, hm5, hb5⟩
              obtain ⟨A5, c5, rfl, hf5⟩ := hm5.own.files
              rw [List.length_map] at *
              have hc5 := Cells.of_below hb5
              have E3 := Lib.hid (hc5 _ _ E3.out)
              have E4 := Lib.hid (hc5 _ _ E4.out)
              have Hb5 := Lib.hid (hbd.trans (hb5.mono hbd.size))
              have hsp := strip_any w5 A5 c5 (l.map (addP p v)) p v hf5 (by rw [List.length_map]; omega) (by omega) (by omega) (fun f hf => by
                obtain ⟨f0, hf0, rfl⟩ := List.mem_map.1 hf
                have := Hmem.out f0 hf0
                show (preOf p v ++ f0.1).size ≤ _
                rw [ByteArray.size_append, preOf_size]
                omega) (fun f hf => by
                obtain ⟨f0, hf0, rfl⟩ := List.mem_map.1 hf
                have := Hmem.out f0 hf0
                show f0.2.length ≤ _
                omega)
              unfold SpPost at hsp
              rw [Hst.out, List.length_map] at hsp
              have Hsp := Lib.hid hsp
              clear hm5 hf5 hb5 hc5 hsp hbd
              refine ⟨_, rfl, ?_⟩
              refine x_keep ⟨E3.out, E4.out⟩ ?_
              with_reducible refine x_one ?_
              refine l_call ?_ (Hsp.out.mono ?_)
              · go_simp
              rintro e w6 ⟨hb6, x6, rfl, hm6⟩
              obtain ⟨A6, c6, rfl, hf6⟩ := hm6.own.files
              have hc6 := Cells.of_below hb6
              have Hb6 := Lib.hid (Hb5.out.trans (hb6.mono Hb5.out.size))
              have E3 := Lib.hid (hc6 _ _ E3.out)
              have E4 := Lib.hid (hc6 _ _ E4.out)
              have hsm := samef_any l l A6 A c6 c w6 hf6 (Hf.out.below Hb6.out)
              rw [decide_eq_true rfl] at hsm
              have Hsm := Lib.hid hsm
              clear hb6 hm6 hf6 hc6 hsm
              refine ⟨_, rfl, ?_⟩
              refine x_keep ⟨E3.out, E4.out⟩ ?_
              iterate 5 ((with_reducible refine x_val (v := ?_) ?_ ?_ ?_); rotate_left; (rintro _ _; go_simp; first | done | rfl | (constructor <;> rfl)); exact ⟨E3.out, E4.out⟩)
              with_reducible refine x_end ?_
              simp only [Act.put, List.setIfInBounds_toArray, List.set_cons_zero, List.set_cons_succ]
              go_wp2_with fail
              refine (num_any _ _).mono ?_
              rintro e w7 ⟨rfl, rfl⟩
              go_wp2_with fail
              refine Hsm.out.mono ?_
              rintro e w8 ⟨rfl, nd, rfl⟩
              go_wp2_with fail
              go_ret
              exact ⟨rfl, ⟨Hb6.out.os, Hb6.out.tape, Hb6.out.output, Hb6.out.size, Hb6.out.block⟩⟩
        case pos =>
          subst hq1
          by_cases hq2 : q2 = 0
          case neg =>
            have e2 : ((q2 : Int) == 0) = false := by rw [beq_eq_false_iff_ne]; omega
            clear hq2
            have H3 : Hid (Tl3 w3 l (.int .i64 0) wr) := Lib.hid ⟨0, by omega, rfl, fun j hj => absurd hj (by omega), HB.out⟩
            go_wp2_with fail
            refine (num_any _ _).mono ?_
            rintro e w4 ⟨rfl, rfl⟩
            go_wp2_with fail
            refine (num_any _ _).mono ?_
            rintro e w4 ⟨rfl, rfl⟩
            go_wp2_with fail
            go_loopw [17] (fun iv wr => Tl3 w3 l iv wr) (fun iv _ => l.length - (intOf iv).toNat)
            case atStart => exact H3.out
            case round =>
              clear H3
              obtain ⟨z, hz, rfl, hze, hzB⟩ := hrel
              have Hze := Lib.hid hze
              have HzB := Lib.hid hzB
              have HzW := Lib.hid (Hb3.out.trans (hzB.mono Hb3.out.size))
              clear hze hzB
              by_cases hzl : z < l.length
              · have hzI : (z : Int) < l.length := by omega
                have hzr : (0 : Int) ≤ z := by omega
                obtain ⟨bb, oo, Ai, ci, rfl, f1, _, _⟩ := (Hf.out.below HzW.out).at_ hzl
                obtain ⟨fz, hfz⟩ : ∃ fz, fz = l.getD z noFl := ⟨_, rfl⟩
                rw [← hfz] at f1
                have Hfz := Lib.hid hfz
                clear hfz
                cases hte : fz.1.toList.isEmpty with
                | true =>
                  have hte2 : fz.1.toList = [] := by simpa using hte
                  go_wp2_with fail
                  all_goals (go_ret; exact ⟨rfl, HzW.out⟩)
                | false =>
                  have hte2 : ¬ fz.1.toList = [] := by intro h; rw [h] at hte; cases hte
                  have hnew : ∀ j, j < z + 1 → (l.getD j noFl).1.toList.isEmpty = false := fun j hj => by
                    by_cases e : j = z
                    · subst e; rw [← Hfz.out]; exact hte
                    · exact Hze.out j (by omega)
                  have Hnew := Lib.hid hnew
                  clear hnew
                  go_wp2_with fail
                  go_roundw
                  case rel => exact ⟨z + 1, by omega, by simp, Hnew.out, HzB.out⟩
                  case measure => simp [intOf]; omega
              · obtain rfl : z = l.length := by omega
                have hall : ∀ f ∈ l, f.1.toList.isEmpty = false := fun f hf => by
                  obtain ⟨j, hj, rfl⟩ := List.getElem_of_mem hf
                  have := Hze.out j hj
                  simpa [List.getD_eq_getElem?_getD, hj] using this
                have Hst := Lib.hid (strip_add p v l hall)
                have hM : wr.heap[gm]? = some (.cells #[.string p, .string v] 24 (0, 0)) := (HzB.out.block _ (lt_of_heap HM3.out)).trans HM3.out
                have E3 : Hid (wr.cell? ⟨gm, 0, none⟩ = some (.string p)) := Lib.hid ((blk_cells hM).1 0)
                have E4 : Hid (wr.cell? ⟨gm, 1, none⟩ = some (.string v)) := Lib.hid ((blk_cells hM).1 1)
                clear hall hM
                go_wp2_with fail
                with_reducible refine g_mixx [(0, 0), (1, 0), (3, 0), (2, 2), (4, 2), (5, 0), (6, 0), (7, 0), (8, 0), (9, 0)] (fun w' => w'.cell? ⟨gm, 0, none⟩ = some (.string p) ∧ w'.cell? ⟨gm, 1, none⟩ = some (.string v)) 0 _ rfl (by kernel_rfl) (by kernel_rfl) ?_ ?_
                · exact ⟨E3.out, E4.out⟩
                intro OPS HD
                simp only [mixX, nthO, consX]
                iterate 3 ((with_reducible refine x_val (v := ?_) ?_ ?_ ?_); rotate_left; (rintro _ ⟨h3, h4⟩; go_simp; first | done | rfl | (constructor <;> rfl)); exact ⟨E3.out, E4.out⟩)
                have hbd : Below w.heap.size w wr.drew := ⟨HzW.out.os, HzW.out.tape, HzW.out.output, HzW.out.size, HzW.out.block⟩
                with_reducible refine x_one ?_
                refine l_call ?_ ((add_any wr.drew A c l p v (Hf.out.below hbd) (by omega) (by omega) (by omega) (fun f hf => by have := Hmem.out f hf; omega) (fun f hf => by have := Hmem.out f hf; omega)).mono ?_)
                · go_simp
                rintro e w5 ⟨x5, rfl, hm5, hb5⟩
                obtain ⟨A5, c5, rfl, hf5⟩ := hm5.own.files
                rw [List.length_map] at *
                have hc5 := Cells.of_below hb5
                have E3 := Lib.hid (hc5 _ _ E3.out)
                have E4 := Lib.hid (hc5 _ _ E4.out)
                have Hb5 := Lib.hid (hbd.trans (hb5.mono hbd.size))
                have hsp := strip_any w5 A5 c5 (l.map (addP p v)) p v hf5 (by rw [List.length_map]; omega) (by omega) (by omega) (fun f hf => by
                  obtain ⟨f0, hf0, rfl⟩ := List.mem_map.1 hf
                  have := Hmem.out f0 hf0
                  show (preOf p v ++ f0.1).size ≤ _
                  rw [ByteArray.size_append, preOf_size]
                  omega) (fun f hf => by
                  obtain ⟨f0, hf0, rfl⟩ := List.mem_map.1 hf
                  have := Hmem.out f0 hf0
                  show f0.2.length ≤ _
                  omega)
                unfold SpPost at hsp
                rw [Hst.out, List.length_map] at hsp
                have Hsp := Lib.hid hsp
                clear hm5 hf5 hb5 hc5 hsp hbd
                refine ⟨_, rfl, ?_⟩
                refine x_keep ⟨E3.out, E4.out⟩ ?_
                with_reducible refine x_one ?_
                refine l_call ?_ (Hsp.out.mono ?_)
                · go_simp
                rintro e w6 ⟨hb6, x6, rfl, hm6⟩
                obtain ⟨A6, c6, rfl, hf6⟩ := hm6.own.files
                have hc6 := Cells.of_below hb6
                have Hb6 := Lib.hid (Hb5.out.trans (hb6.mono Hb5.out.size))
                have E3 := Lib.hid (hc6 _ _ E3.out)
                have E4 := Lib.hid (hc6 _ _ E4.out)
                have hsm := samef_any l l A6 A c6 c w6 hf6 (Hf.out.below Hb6.out)
                rw [decide_eq_true rfl] at hsm
                have Hsm := Lib.hid hsm
                clear hb6 hm6 hf6 hc6 hsm
                refine ⟨_, rfl, ?_⟩
                refine x_keep ⟨E3.out, E4.out⟩ ?_
                iterate 5 ((with_reducible refine x_val (v := ?_) ?_ ?_ ?_); rotate_left; (rintro _ _; go_simp; first | done | rfl | (constructor <;> rfl)); exact ⟨E3.out, E4.out⟩)
                with_reducible refine x_end ?_
                simp only [Act.put, List.setIfInBounds_toArray, List.set_cons_zero, List.set_cons_succ]
                go_wp2_with fail
                refine (num_any _ _).mono ?_
                rintro e w7 ⟨rfl, rfl⟩
                go_wp2_with fail
                refine Hsm.out.mono ?_
                rintro e w8 ⟨rfl, nd, rfl⟩
                go_wp2_with fail
                go_ret
                exact ⟨rfl, ⟨Hb6.out.os, Hb6.out.tape, Hb6.out.output, Hb6.out.size, Hb6.out.block⟩⟩
          case pos =>
            subst hq2
            clear Hsm
            have H3 : Hid (Tl3 w3 l (.int .i64 0) wr) := Lib.hid ⟨0, by omega, rfl, fun j hj => absurd hj (by omega), HB.out⟩
            go_wp2_with fail
            refine (num_any _ _).mono ?_
            rintro e w4 ⟨rfl, rfl⟩
            go_wp2_with fail
            refine (num_any _ _).mono ?_
            rintro e w4 ⟨rfl, rfl⟩
            go_wp2_with fail
            go_loopw [17] (fun iv wr => Tl3 w3 l iv wr) (fun iv _ => l.length - (intOf iv).toNat)
            case atStart => exact H3.out
            case round =>
              clear H3
              obtain ⟨z, hz, rfl, hze, hzB⟩ := hrel
              have Hze := Lib.hid hze
              have HzB := Lib.hid hzB
              have HzW := Lib.hid (Hb3.out.trans (hzB.mono Hb3.out.size))
              clear hze hzB
              by_cases hzl : z < l.length
              · have hzI : (z : Int) < l.length := by omega
                have hzr : (0 : Int) ≤ z := by omega
                obtain ⟨bb, oo, Ai, ci, rfl, f1, _, _⟩ := (Hf.out.below HzW.out).at_ hzl
                obtain ⟨fz, hfz⟩ : ∃ fz, fz = l.getD z noFl := ⟨_, rfl⟩
                rw [← hfz] at f1
                have Hfz := Lib.hid hfz
                clear hfz
                cases hte : fz.1.toList.isEmpty with
                | true =>
                  have hte2 : fz.1.toList = [] := by simpa using hte
                  go_wp2_with fail
                  all_goals (go_ret; exact ⟨rfl, HzW.out⟩)
                | false =>
                  have hte2 : ¬ fz.1.toList = [] := by intro h; rw [h] at hte; cases hte
                  have hnew : ∀ j, j < z + 1 → (l.getD j noFl).1.toList.isEmpty = false := fun j hj => by
                    by_cases e : j = z
                    · subst e; rw [← Hfz.out]; exact hte
                    · exact Hze.out j (by omega)
                  have Hnew := Lib.hid hnew
                  clear hnew
                  go_wp2_with fail
                  go_roundw
                  case rel => exact ⟨z + 1, by omega, by simp, Hnew.out, HzB.out⟩
                  case measure => simp [intOf]; omega
              · obtain rfl : z = l.length := by omega
                have hall : ∀ f ∈ l, f.1.toList.isEmpty = false := fun f hf => by
                  obtain ⟨j, hj, rfl⟩ := List.getElem_of_mem hf
                  have := Hze.out j hj
                  simpa [List.getD_eq_getElem?_getD, hj] using this
                have Hst := Lib.hid (strip_add p v l hall)
                have hM : wr.heap[gm]? = some (.cells #[.string p, .string v] 24 (0, 0)) := (HzB.out.block _ (lt_of_heap HM3.out)).trans HM3.out
                have E3 : Hid (wr.cell? ⟨gm, 0, none⟩ = some (.string p)) := Lib.hid ((blk_cells hM).1 0)
                have E4 : Hid (wr.cell? ⟨gm, 1, none⟩ = some (.string v)) := Lib.hid ((blk_cells hM).1 1)
                clear hall hM
                go_wp2_with fail
                with_reducible refine g_mixx [(0, 0), (1, 0), (3, 0), (2, 2), (4, 2), (5, 0), (6, 0), (7, 0), (8, 0), (9, 0)] (fun w' => w'.cell? ⟨gm, 0, none⟩ = some (.string p) ∧ w'.cell? ⟨gm, 1, none⟩ = some (.string v)) 0 _ rfl (by kernel_rfl) (by kernel_rfl) ?_ ?_
                · exact ⟨E3.out, E4.out⟩
                intro OPS HD
                simp only [mixX, nthO, consX]
                iterate 3 ((with_reducible refine x_val (v := ?_) ?_ ?_ ?_); rotate_left; (rintro _ ⟨h3, h4⟩; go_simp; first | done | rfl | (constructor <;> rfl)); exact ⟨E3.out, E4.out⟩)
                have hbd : Below w.heap.size w wr.drew := ⟨HzW.out.os, HzW.out.tape, HzW.out.output, HzW.out.size, HzW.out.block⟩
                with_reducible refine x_one ?_
                refine l_call ?_ ((add_any wr.drew A c l p v (Hf.out.below hbd) (by omega) (by omega) (by omega) (fun f hf => by have := Hmem.out f hf; omega) (fun f hf => by have := Hmem.out f hf; omega)).mono ?_)
                · go_simp
                rintro e w5 ⟨x5, rfl, hm5, hb5⟩
                obtain ⟨A5, c5, rfl, hf5⟩ := hm5.own.files
                rw [List.length_map] at *
                have hc5 := Cells.of_below hb5
                have E3 := Lib.hid (hc5 _ _ E3.out)
                have E4 := Lib.hid (hc5 _ _ E4.out)
                have Hb5 := Lib.hid (hbd.trans (hb5.mono hbd.size))
                have hsp := strip_any w5 A5 c5 (l.map (addP p v)) p v hf5 (by rw [List.length_map]; omega) (by omega) (by omega) (fun f hf => by
                  obtain ⟨f0, hf0, rfl⟩ := List.mem_map.1 hf
                  have := Hmem.out f0 hf0
                  show (preOf p v ++ f0.1).size ≤ _
                  rw [ByteArray.size_append, preOf_size]
                  omega) (fun f hf => by
                  obtain ⟨f0, hf0, rfl⟩ := List.mem_map.1 hf
                  have := Hmem.out f0 hf0
                  show f0.2.length ≤ _
                  omega)
                unfold SpPost at hsp
                rw [Hst.out, List.length_map] at hsp
                have Hsp := Lib.hid hsp
                clear hm5 hf5 hb5 hc5 hsp hbd
                refine ⟨_, rfl, ?_⟩
                refine x_keep ⟨E3.out, E4.out⟩ ?_
                with_reducible refine x_one ?_
                refine l_call ?_ (Hsp.out.mono ?_)
                · go_simp
                rintro e w6 ⟨hb6, x6, rfl, hm6⟩
                obtain ⟨A6, c6, rfl, hf6⟩ := hm6.own.files
                have hc6 := Cells.of_below hb6
                have Hb6 := Lib.hid (Hb5.out.trans (hb6.mono Hb5.out.size))
                have E3 := Lib.hid (hc6 _ _ E3.out)
                have E4 := Lib.hid (hc6 _ _ E4.out)
                have hsm := samef_any l l A6 A c6 c w6 hf6 (Hf.out.below Hb6.out)
                rw [decide_eq_true rfl] at hsm
                have Hsm := Lib.hid hsm
                clear hb6 hm6 hf6 hc6 hsm
                refine ⟨_, rfl, ?_⟩
                refine x_keep ⟨E3.out, E4.out⟩ ?_
                iterate 5 ((with_reducible refine x_val (v := ?_) ?_ ?_ ?_); rotate_left; (rintro _ _; go_simp; first | done | rfl | (constructor <;> rfl)); exact ⟨E3.out, E4.out⟩)
                with_reducible refine x_end ?_
                simp only [Act.put, List.setIfInBounds_toArray, List.set_cons_zero, List.set_cons_succ]
                go_wp2_with fail
                refine (num_any _ _).mono ?_
                rintro e w7 ⟨rfl, rfl⟩
                go_wp2_with fail
                refine Hsm.out.mono ?_
                rintro e w8 ⟨rfl, nd, rfl⟩
                go_wp2_with fail
                go_ret
                exact ⟨rfl, ⟨Hb6.out.os, Hb6.out.tape, Hb6.out.output, Hb6.out.size, Hb6.out.block⟩⟩
    · have hlI : ¬ (i : Int) < l.length := by omega
      obtain rfl : i = l.length := by omega
      by_cases hq1 : q1 = 0
      case neg =>
        have e1 : ((q1 : Int) == 0) = false := by rw [beq_eq_false_iff_ne]; omega
        clear hq1
        have H3 : Hid (Tl3 w3 l (.int .i64 0) wr) := Lib.hid ⟨0, by omega, rfl, fun j hj => absurd hj (by omega), HB.out⟩
        go_wp2_with fail
        refine (num_any _ _).mono ?_
        rintro e w4 ⟨rfl, rfl⟩
        go_wp2_with fail
        go_loopw [17] (fun iv wr => Tl3 w3 l iv wr) (fun iv _ => l.length - (intOf iv).toNat)
        case atStart => exact H3.out
        case round =>
          clear H3
          obtain ⟨z, hz, rfl, hze, hzB⟩ := hrel
          have Hze := Lib.hid hze
          have HzB := Lib.hid hzB
          have HzW := Lib.hid (Hb3.out.trans (hzB.mono Hb3.out.size))
          clear hze hzB
          by_cases hzl : z < l.length
          · have hzI : (z : Int) < l.length := by omega
            have hzr : (0 : Int) ≤ z := by omega
            obtain ⟨bb, oo, Ai, ci, rfl, f1, _, _⟩ := (Hf.out.below HzW.out).at_ hzl
            obtain ⟨fz, hfz⟩ : ∃ fz, fz = l.getD z noFl := ⟨_, rfl⟩
            rw [← hfz] at f1
            have Hfz := Lib.hid hfz
            clear hfz
            cases hte : fz.1.toList.isEmpty with
            | true =>
              have hte2 : fz.1.toList = [] := by simpa using hte
              go_wp2_with fail
              all_goals (go_ret; exact ⟨rfl, HzW.out⟩)
            | false =>
              have hte2 : ¬ fz.1.toList = [] := by intro h; rw [h] at hte; cases hte
              have hnew : ∀ j, j < z + 1 → (l.getD j noFl).1.toList.isEmpty = false := fun j hj => by
                by_cases e : j = z
                · subst e; rw [← Hfz.out]; exact hte
                · exact Hze.out j (by omega)
              have Hnew := Lib.hid hnew
              clear hnew
              go_wp2_with fail
              go_roundw
              case rel => exact ⟨z + 1, by omega, by simp, Hnew.out, HzB.out⟩
              case measure => simp [intOf]; omega
          · obtain rfl : z = l.length := by omega
            have hall : ∀ f ∈ l, f.1.toList.isEmpty = false := fun f hf => by
              obtain ⟨j, hj, rfl⟩ := List.getElem_of_mem hf
              have := Hze.out j hj
              simpa [List.getD_eq_getElem?_getD, hj] using this
            have Hst := Lib.hid (strip_add p v l hall)
            have hM : wr.heap[gm]? = some (.cells #[.string p, .string v] 24 (0, 0)) := (HzB.out.block _ (lt_of_heap HM3.out)).trans HM3.out
            have E3 : Hid (wr.cell? ⟨gm, 0, none⟩ = some (.string p)) := Lib.hid ((blk_cells hM).1 0)
            have E4 : Hid (wr.cell? ⟨gm, 1, none⟩ = some (.string v)) := Lib.hid ((blk_cells hM).1 1)
            clear hall hM
            go_wp2_with fail
            with_reducible refine g_mixx [(0, 0), (1, 0), (3, 0), (2, 2), (4, 2), (5, 0), (6, 0), (7, 0), (8, 0), (9, 0)] (fun w' => w'.cell? ⟨gm, 0, none⟩ = some (.string p) ∧ w'.cell? ⟨gm, 1, none⟩ = some (.string v)) 0 _ rfl (by kernel_rfl) (by kernel_rfl) ?_ ?_
            · exact ⟨E3.out, E4.out⟩
            intro OPS HD
            simp only [mixX, nthO, consX]
            iterate 3 ((with_reducible refine x_val (v := ?_) ?_ ?_ ?_); rotate_left; (rintro _ ⟨h3, h4⟩; go_simp; first | done | rfl | (constructor <;> rfl)); exact ⟨E3.out, E4.out⟩)
            have hbd : Below w.heap.size w wr.drew := ⟨HzW.out.os, HzW.out.tape, HzW.out.output, HzW.out.size, HzW.out.block⟩
            with_reducible refine x_one ?_
            refine l_call ?_ ((add_any wr.drew A c l p v (Hf.out.below hbd) (by omega) (by omega) (by omega) (fun f hf => by have := Hmem.out f hf; omega) (fun f hf => by have := Hmem.out f hf; omega)).mono ?_)
            · go_simp
            rintro e w5 ⟨x5, rfl, hm5, hb5⟩
            obtain ⟨A5, c5, rfl, hf5⟩ := hm5.own.files
            rw [List.length_map] at *
            have hc5 := Cells.of_below hb5
            have E3 := Lib.hid (hc5 _ _ E3.out)
            have E4 := Lib.hid (hc5 _ _ E4.out)
            have Hb5 := Lib.hid (hbd.trans (hb5.mono hbd.size))
            have hsp := strip_any w5 A5 c5 (l.map (addP p v)) p v hf5 (by rw [List.length_map]; omega) (by omega) (by omega) (fun f hf => by
              obtain ⟨f0, hf0, rfl⟩ := List.mem_map.1 hf
              have := Hmem.out f0 hf0
              show (preOf p v ++ f0.1).size ≤ _
              rw [ByteArray.size_append, preOf_size]
              omega) (fun f hf => by
              obtain ⟨f0, hf0, rfl⟩ := List.mem_map.1 hf
              have := Hmem.out f0 hf0
              show f0.2.length ≤ _
              omega)
            unfold SpPost at hsp
            rw [Hst.out, List.length_map] at hsp
            have Hsp := Lib.hid hsp
            clear hm5 hf5 hb5 hc5 hsp hbd
            refine ⟨_, rfl, ?_⟩
            refine x_keep ⟨E3.out, E4.out⟩ ?_
            with_reducible refine x_one ?_
            refine l_call ?_ (Hsp.out.mono ?_)
            · go_simp
            rintro e w6 ⟨hb6, x6, rfl, hm6⟩
            obtain ⟨A6, c6, rfl, hf6⟩ := hm6.own.files
            have hc6 := Cells.of_below hb6
            have Hb6 := Lib.hid (Hb5.out.trans (hb6.mono Hb5.out.size))
            have E3 := Lib.hid (hc6 _ _ E3.out)
            have E4 := Lib.hid (hc6 _ _ E4.out)
            have hsm := samef_any l l A6 A c6 c w6 hf6 (Hf.out.below Hb6.out)
            rw [decide_eq_true rfl] at hsm
            have Hsm := Lib.hid hsm
            clear hb6 hm6 hf6 hc6 hsm
            refine ⟨_, rfl, ?_⟩
            refine x_keep ⟨E3.out, E4.out⟩ ?_
            iterate 5 ((with_reducible refine x_val (v := ?_) ?_ ?_ ?_); rotate_left; (rintro _ _; go_simp; first | done | rfl | (constructor <;> rfl)); exact ⟨E3.out, E4.out⟩)
            with_reducible refine x_end ?_
            simp only [Act.put, List.setIfInBounds_toArray, List.set_cons_zero, List.set_cons_succ]
            go_wp2_with fail
            refine (num_any _ _).mono ?_
            rintro e w7 ⟨rfl, rfl⟩
            go_wp2_with fail
            refine Hsm.out.mono ?_
            rintro e w8 ⟨rfl, nd, rfl⟩
            go_wp2_with fail
            go_ret
            exact ⟨rfl, ⟨Hb6.out.os, Hb6.out.tape, Hb6.out.output, Hb6.out.size, Hb6.out.block⟩⟩
      case pos =>
        subst hq1
        by_cases hq2 : q2 = 0
        case neg =>
          have e2 : ((q2 : Int) == 0) = false := by rw [beq_eq_false_iff_ne]; omega
          clear hq2
          have H3 : Hid (Tl3 w3 l (.int .i64 0) wr) := Lib.hid ⟨0, by omega, rfl, fun j hj => absurd hj (by omega), HB.out⟩
          go_wp2_with fail
          refine (num_any _ _).mono ?_
          rintro e w4 ⟨rfl, rfl⟩
          go_wp2_with fail
          refine (num_any _ _).mono ?_
          rintro e w4 ⟨rfl, rfl⟩
          go_wp2_with fail
          go_loopw [17] (fun iv wr => Tl3 w3 l iv wr) (fun iv _ => l.length - (intOf iv).toNat)
          case atStart => exact H3.out
          case round =>
            clear H3
            obtain ⟨z, hz, rfl, hze, hzB⟩ := hrel
            have Hze := Lib.hid hze
            have HzB := Lib.hid hzB
            have HzW := Lib.hid (Hb3.out.trans (hzB.mono Hb3.out.size))
            clear hze hzB
            by_cases hzl : z < l.length
            · have hzI : (z : Int) < l.length := by omega
              have hzr : (0 : Int) ≤ z := by omega
              obtain ⟨bb, oo, Ai, ci, rfl, f1, _, _⟩ := (Hf.out.below HzW.out).at_ hzl
              obtain ⟨fz, hfz⟩ : ∃ fz, fz = l.getD z noFl := ⟨_, rfl⟩
              rw [← hfz] at f1
              have Hfz := Lib.hid hfz
              clear hfz
              cases hte : fz.1.toList.isEmpty with
              | true =>
                have hte2 : fz.1.toList = [] := by simpa using hte
                go_wp2_with fail
                all_goals (go_ret; exact ⟨rfl, HzW.out⟩)
              | false =>
                have hte2 : ¬ fz.1.toList = [] := by intro h; rw [h] at hte; cases hte
                have hnew : ∀ j, j < z + 1 → (l.getD j noFl).1.toList.isEmpty = false := fun j hj => by
                  by_cases e : j = z
                  · subst e; rw [← Hfz.out]; exact hte
                  · exact Hze.out j (by omega)
                have Hnew := Lib.hid hnew
                clear hnew
                go_wp2_with fail
                go_roundw
                case rel => exact ⟨z + 1, by omega, by simp, Hnew.out, HzB.out⟩
                case measure => simp [intOf]; omega
            · obtain rfl : z = l.length := by omega
              have hall : ∀ f ∈ l, f.1.toList.isEmpty = false := fun f hf => by
                obtain ⟨j, hj, rfl⟩ := List.getElem_of_mem hf
                have := Hze.out j hj
                simpa [List.getD_eq_getElem?_getD, hj] using this
              have Hst := Lib.hid (strip_add p v l hall)
              have hM : wr.heap[gm]? = some (.cells #[.string p, .string v] 24 (0, 0)) := (HzB.out.block _ (lt_of_heap HM3.out)).trans HM3.out
              have E3 : Hid (wr.cell? ⟨gm, 0, none⟩ = some (.string p)) := Lib.hid ((blk_cells hM).1 0)
              have E4 : Hid (wr.cell? ⟨gm, 1, none⟩ = some (.string v)) := Lib.hid ((blk_cells hM).1 1)
              clear hall hM
              go_wp2_with fail
              with_reducible refine g_mixx [(0, 0), (1, 0), (3, 0), (2, 2), (4, 2), (5, 0), (6, 0), (7, 0), (8, 0), (9, 0)] (fun w' => w'.cell? ⟨gm, 0, none⟩ = some (.string p) ∧ w'.cell? ⟨gm, 1, none⟩ = some (.string v)) 0 _ rfl (by kernel_rfl) (by kernel_rfl) ?_ ?_
              · exact ⟨E3.out, E4.out⟩
              intro OPS HD
              simp only [mixX, nthO, consX]
              iterate 3 ((with_reducible refine x_val (v := ?_) ?_ ?_ ?_); rotate_left; (rintro _ ⟨h3, h4⟩; go_simp; first | done | rfl | (constructor <;> rfl)); exact ⟨E3.out, E4.out⟩)
              have hbd : Below w.heap.size w wr.drew := ⟨HzW.out.os, HzW.out.tape, HzW.out.output, HzW.out.size, HzW.out.block⟩
              with_reducible refine x_one ?_
              refine l_call ?_ ((add_any wr.drew A c l p v (Hf.out.below hbd) (by omega) (by omega) (by omega) (fun f hf => by have := Hmem.out f hf; omega) (fun f hf => by have := Hmem.out f hf; omega)).mono ?_)
              · go_simp
              rintro e w5 ⟨x5, rfl, hm5, hb5⟩
              obtain ⟨A5, c5, rfl, hf5⟩ := hm5.own.files
              rw [List.length_map] at *
              have hc5 := Cells.of_below hb5
              have E3 := Lib.hid (hc5 _ _ E3.out)
              have E4 := Lib.hid (hc5 _ _ E4.out)
              have Hb5 := Lib.hid (hbd.trans (hb5.mono hbd.size))
              have hsp := strip_any w5 A5 c5 (l.map (addP p v)) p v hf5 (by rw [List.length_map]; omega) (by omega) (by omega) (fun f hf => by
                obtain ⟨f0, hf0, rfl⟩ := List.mem_map.1 hf
                have := Hmem.out f0 hf0
                show (preOf p v ++ f0.1).size ≤ _
                rw [ByteArray.size_append, preOf_size]
                omega) (fun f hf => by
                obtain ⟨f0, hf0, rfl⟩ := List.mem_map.1 hf
                have := Hmem.out f0 hf0
                show f0.2.length ≤ _
                omega)
              unfold SpPost at hsp
              rw [Hst.out, List.length_map] at hsp
              have Hsp := Lib.hid hsp
              clear hm5 hf5 hb5 hc5 hsp hbd
              refine ⟨_, rfl, ?_⟩
              refine x_keep ⟨E3.out, E4.out⟩ ?_
              with_reducible refine x_one ?_
              refine l_call ?_ (Hsp.out.mono ?_)
              · go_simp
              rintro e w6 ⟨hb6, x6, rfl, hm6⟩
              obtain ⟨A6, c6, rfl, hf6⟩ := hm6.own.files
              have hc6 := Cells.of_below hb6
              have Hb6 := Lib.hid (Hb5.out.trans (hb6.mono Hb5.out.size))
              have E3 := Lib.hid (hc6 _ _ E3.out)
              have E4 := Lib.hid (hc6 _ _ E4.out)
              have hsm := samef_any l l A6 A c6 c w6 hf6 (Hf.out.below Hb6.out)
              rw [decide_eq_true rfl] at hsm
              have Hsm := Lib.hid hsm
              clear hb6 hm6 hf6 hc6 hsm
              refine ⟨_, rfl, ?_⟩
              refine x_keep ⟨E3.out, E4.out⟩ ?_
              iterate 5 ((with_reducible refine x_val (v := ?_) ?_ ?_ ?_); rotate_left; (rintro _ _; go_simp; first | done | rfl | (constructor <;> rfl)); exact ⟨E3.out, E4.out⟩)
              with_reducible refine x_end ?_
              simp only [Act.put, List.setIfInBounds_toArray, List.set_cons_zero, List.set_cons_succ]
              go_wp2_with fail
              refine (num_any _ _).mono ?_
              rintro e w7 ⟨rfl, rfl⟩
              go_wp2_with fail
              refine Hsm.out.mono ?_
              rintro e w8 ⟨rfl, nd, rfl⟩
              go_wp2_with fail
              go_ret
              exact ⟨rfl, ⟨Hb6.out.os, Hb6.out.tape, Hb6.out.output, Hb6.out.size, Hb6.out.block⟩⟩
        case pos =>
          subst hq2
          cases sm with
          | false =>
            clear Hsm
            have H3 : Hid (Tl3 w3 l (.int .i64 0) wr) := Lib.hid ⟨0, by omega, rfl, fun j hj => absurd hj (by omega), HB.out⟩
            go_wp2_with fail
            refine (num_any _ _).mono ?_
            rintro e w4 ⟨rfl, rfl⟩
            go_wp2_with fail
            refine (num_any _ _).mono ?_
            rintro e w4 ⟨rfl, rfl⟩
            go_wp2_with fail
            go_loopw [17] (fun iv wr => Tl3 w3 l iv wr) (fun iv _ => l.length - (intOf iv).toNat)
            case atStart => exact H3.out
            case round =>
              clear H3
              obtain ⟨z, hz, rfl, hze, hzB⟩ := hrel
              have Hze := Lib.hid hze
              have HzB := Lib.hid hzB
              have HzW := Lib.hid (Hb3.out.trans (hzB.mono Hb3.out.size))
              clear hze hzB
              by_cases hzl : z < l.length
              · have hzI : (z : Int) < l.length := by omega
                have hzr : (0 : Int) ≤ z := by omega
                obtain ⟨bb, oo, Ai, ci, rfl, f1, _, _⟩ := (Hf.out.below HzW.out).at_ hzl
                obtain ⟨fz, hfz⟩ : ∃ fz, fz = l.getD z noFl := ⟨_, rfl⟩
                rw [← hfz] at f1
                have Hfz := Lib.hid hfz
                clear hfz
                cases hte : fz.1.toList.isEmpty with
                | true =>
                  have hte2 : fz.1.toList = [] := by simpa using hte
                  go_wp2_with fail
                  all_goals (go_ret; exact ⟨rfl, HzW.out⟩)
                | false =>
                  have hte2 : ¬ fz.1.toList = [] := by intro h; rw [h] at hte; cases hte
                  have hnew : ∀ j, j < z + 1 → (l.getD j noFl).1.toList.isEmpty = false := fun j hj => by
                    by_cases e : j = z
                    · subst e; rw [← Hfz.out]; exact hte
                    · exact Hze.out j (by omega)
                  have Hnew := Lib.hid hnew
                  clear hnew
                  go_wp2_with fail
                  go_roundw
                  case rel => exact ⟨z + 1, by omega, by simp, Hnew.out, HzB.out⟩
                  case measure => simp [intOf]; omega
              · obtain rfl : z = l.length := by omega
                have hall : ∀ f ∈ l, f.1.toList.isEmpty = false := fun f hf => by
                  obtain ⟨j, hj, rfl⟩ := List.getElem_of_mem hf
                  have := Hze.out j hj
                  simpa [List.getD_eq_getElem?_getD, hj] using this
                have Hst := Lib.hid (strip_add p v l hall)
                have hM : wr.heap[gm]? = some (.cells #[.string p, .string v] 24 (0, 0)) := (HzB.out.block _ (lt_of_heap HM3.out)).trans HM3.out
                have E3 : Hid (wr.cell? ⟨gm, 0, none⟩ = some (.string p)) := Lib.hid ((blk_cells hM).1 0)
                have E4 : Hid (wr.cell? ⟨gm, 1, none⟩ = some (.string v)) := Lib.hid ((blk_cells hM).1 1)
                clear hall hM
                go_wp2_with fail
                with_reducible refine g_mixx [(0, 0), (1, 0), (3, 0), (2, 2), (4, 2), (5, 0), (6, 0), (7, 0), (8, 0), (9, 0)] (fun w' => w'.cell? ⟨gm, 0, none⟩ = some (.string p) ∧ w'.cell? ⟨gm, 1, none⟩ = some (.string v)) 0 _ rfl (by kernel_rfl) (by kernel_rfl) ?_ ?_
                · exact ⟨E3.out, E4.out⟩
                intro OPS HD
                simp only [mixX, nthO, consX]
                iterate 3 ((with_reducible refine x_val (v := ?_) ?_ ?_ ?_); rotate_left; (rintro _ ⟨h3, h4⟩; go_simp; first | done | rfl | (constructor <;> rfl)); exact ⟨E3.out, E4.out⟩)
                have hbd : Below w.heap.size w wr.drew := ⟨HzW.out.os, HzW.out.tape, HzW.out.output, HzW.out.size, HzW.out.block⟩
                with_reducible refine x_one ?_
                refine l_call ?_ ((add_any wr.drew A c l p v (Hf.out.below hbd) (by omega) (by omega) (by omega) (fun f hf => by have := Hmem.out f hf; omega) (fun f hf => by have := Hmem.out f hf; omega)).mono ?_)
                · go_simp
                rintro e w5 ⟨x5, rfl, hm5, hb5⟩
                obtain ⟨A5, c5, rfl, hf5⟩ := hm5.own.files
                rw [List.length_map] at *
                have hc5 := Cells.of_below hb5
                have E3 := Lib.hid (hc5 _ _ E3.out)
                have E4 := Lib.hid (hc5 _ _ E4.out)
                have Hb5 := Lib.hid (hbd.trans (hb5.mono hbd.size))
                have hsp := strip_any w5 A5 c5 (l.map (addP p v)) p v hf5 (by rw [List.length_map]; omega) (by omega) (by omega) (fun f hf => by
                  obtain ⟨f0, hf0, rfl⟩ := List.mem_map.1 hf
                  have := Hmem.out f0 hf0
                  show (preOf p v ++ f0.1).size ≤ _
                  rw [ByteArray.size_append, preOf_size]
                  omega) (fun f hf => by
                  obtain ⟨f0, hf0, rfl⟩ := List.mem_map.1 hf
                  have := Hmem.out f0 hf0
                  show f0.2.length ≤ _
                  omega)
                unfold SpPost at hsp
                rw [Hst.out, List.length_map] at hsp
                have Hsp := Lib.hid hsp
                clear hm5 hf5 hb5 hc5 hsp hbd
                refine ⟨_, rfl, ?_⟩
                refine x_keep ⟨E3.out, E4.out⟩ ?_
                with_reducible refine x_one ?_
                refine l_call ?_ (Hsp.out.mono ?_)
                · go_simp
                rintro e w6 ⟨hb6, x6, rfl, hm6⟩
                obtain ⟨A6, c6, rfl, hf6⟩ := hm6.own.files
                have hc6 := Cells.of_below hb6
                have Hb6 := Lib.hid (Hb5.out.trans (hb6.mono Hb5.out.size))
                have E3 := Lib.hid (hc6 _ _ E3.out)
                have E4 := Lib.hid (hc6 _ _ E4.out)
                have hsm := samef_any l l A6 A c6 c w6 hf6 (Hf.out.below Hb6.out)
                rw [decide_eq_true rfl] at hsm
                have Hsm := Lib.hid hsm
                clear hb6 hm6 hf6 hc6 hsm
                refine ⟨_, rfl, ?_⟩
                refine x_keep ⟨E3.out, E4.out⟩ ?_
                iterate 5 ((with_reducible refine x_val (v := ?_) ?_ ?_ ?_); rotate_left; (rintro _ _; go_simp; first | done | rfl | (constructor <;> rfl)); exact ⟨E3.out, E4.out⟩)
                with_reducible refine x_end ?_
                simp only [Act.put, List.setIfInBounds_toArray, List.set_cons_zero, List.set_cons_succ]
                go_wp2_with fail
                refine (num_any _ _).mono ?_
                rintro e w7 ⟨rfl, rfl⟩
                go_wp2_with fail
                refine Hsm.out.mono ?_
                rintro e w8 ⟨rfl, nd, rfl⟩
                go_wp2_with fail
                go_ret
                exact ⟨rfl, ⟨Hb6.out.os, Hb6.out.tape, Hb6.out.output, Hb6.out.size, Hb6.out.block⟩⟩
          | true =>
            obtain ⟨hlen, hfnd⟩ := Hsm.out rfl
            obtain rfl : S2 = S1 := by
              rw [HS1.out, HS2.out, if_pos Hq1.out.symm, if_pos Hq2.out.symm]
              rw [tells_sum Hq1.out.symm Hq2.out.symm hlen fun f hf => by
                obtain ⟨j, hj, rfl⟩ := List.getElem_of_mem hf
                obtain ⟨q, g1, g2, g3⟩ := foundB_mem k.length (Nat.le_refl _) (hfnd j (by omega))
                have e : l.getD j noFl = l[j] := by simp [List.getD_eq_getElem?_getD, hj]
                rw [e] at g2 g3
                exact ⟨q, g1, g2, g3⟩]
            have hss : (S2.toList != S2.toList) = false := by simp
            have hss2 : (S2.toList == S2.toList) = true := by simp
            clear Hsm hlen hfnd
            have H3 : Hid (Tl3 w3 l (.int .i64 0) wr) := Lib.hid ⟨0, by omega, rfl, fun j hj => absurd hj (by omega), HB.out⟩
            go_wp2_with fail
            refine (num_any _ _).mono ?_
            rintro e w4 ⟨rfl, rfl⟩
            go_wp2_with fail
            refine (num_any _ _).mono ?_
            rintro e w4 ⟨rfl, rfl⟩
            go_wp2_with fail
            go_loopw [17] (fun iv wr => Tl3 w3 l iv wr) (fun iv _ => l.length - (intOf iv).toNat)
            case atStart => exact H3.out
            case round =>
              clear H3
              obtain ⟨z, hz, rfl, hze, hzB⟩ := hrel
              have Hze := Lib.hid hze
              have HzB := Lib.hid hzB
              have HzW := Lib.hid (Hb3.out.trans (hzB.mono Hb3.out.size))
              clear hze hzB
              by_cases hzl : z < l.length
              · have hzI : (z : Int) < l.length := by omega
                have hzr : (0 : Int) ≤ z := by omega
                obtain ⟨bb, oo, Ai, ci, rfl, f1, _, _⟩ := (Hf.out.below HzW.out).at_ hzl
                obtain ⟨fz, hfz⟩ : ∃ fz, fz = l.getD z noFl := ⟨_, rfl⟩
                rw [← hfz] at f1
                have Hfz := Lib.hid hfz
                clear hfz
                cases hte : fz.1.toList.isEmpty with
                | true =>
                  have hte2 : fz.1.toList = [] := by simpa using hte
                  go_wp2_with fail
                  all_goals (go_ret; exact ⟨rfl, HzW.out⟩)
                | false =>
                  have hte2 : ¬ fz.1.toList = [] := by intro h; rw [h] at hte; cases hte
                  have hnew : ∀ j, j < z + 1 → (l.getD j noFl).1.toList.isEmpty = false := fun j hj => by
                    by_cases e : j = z
                    · subst e; rw [← Hfz.out]; exact hte
                    · exact Hze.out j (by omega)
                  have Hnew := Lib.hid hnew
                  clear hnew
                  go_wp2_with fail
                  go_roundw
                  case rel => exact ⟨z + 1, by omega, by simp, Hnew.out, HzB.out⟩
                  case measure => simp [intOf]; omega
              · obtain rfl : z = l.length := by omega
                have hall : ∀ f ∈ l, f.1.toList.isEmpty = false := fun f hf => by
                  obtain ⟨j, hj, rfl⟩ := List.getElem_of_mem hf
                  have := Hze.out j hj
                  simpa [List.getD_eq_getElem?_getD, hj] using this
                have Hst := Lib.hid (strip_add p v l hall)
                have hM : wr.heap[gm]? = some (.cells #[.string p, .string v] 24 (0, 0)) := (HzB.out.block _ (lt_of_heap HM3.out)).trans HM3.out
                have E3 : Hid (wr.cell? ⟨gm, 0, none⟩ = some (.string p)) := Lib.hid ((blk_cells hM).1 0)
                have E4 : Hid (wr.cell? ⟨gm, 1, none⟩ = some (.string v)) := Lib.hid ((blk_cells hM).1 1)
                clear hall hM
                go_wp2_with fail
                with_reducible refine g_mixx [(0, 0), (1, 0), (3, 0), (2, 2), (4, 2), (5, 0), (6, 0), (7, 0), (8, 0), (9, 0)] (fun w' => w'.cell? ⟨gm, 0, none⟩ = some (.string p) ∧ w'.cell? ⟨gm, 1, none⟩ = some (.string v)) 0 _ rfl (by kernel_rfl) (by kernel_rfl) ?_ ?_
                · exact ⟨E3.out, E4.out⟩
                intro OPS HD
                simp only [mixX, nthO, consX]
                iterate 3 ((with_reducible refine x_val (v := ?_) ?_ ?_ ?_); rotate_left; (rintro _ ⟨h3, h4⟩; go_simp; first | done | rfl | (constructor <;> rfl)); exact ⟨E3.out, E4.out⟩)
                have hbd : Below w.heap.size w wr.drew := ⟨HzW.out.os, HzW.out.tape, HzW.out.output, HzW.out.size, HzW.out.block⟩
                with_reducible refine x_one ?_
                refine l_call ?_ ((add_any wr.drew A c l p v (Hf.out.below hbd) (by omega) (by omega) (by omega) (fun f hf => by have := Hmem.out f hf; omega) (fun f hf => by have := Hmem.out f hf; omega)).mono ?_)
                · go_simp
                rintro e w5 ⟨x5, rfl, hm5, hb5⟩
                obtain ⟨A5, c5, rfl, hf5⟩ := hm5.own.files
                rw [List.length_map] at *
                have hc5 := Cells.of_below hb5
                have E3 := Lib.hid (hc5 _ _ E3.out)
                have E4 := Lib.hid (hc5 _ _ E4.out)
                have Hb5 := Lib.hid (hbd.trans (hb5.mono hbd.size))
                have hsp := strip_any w5 A5 c5 (l.map (addP p v)) p v hf5 (by rw [List.length_map]; omega) (by omega) (by omega) (fun f hf => by
                  obtain ⟨f0, hf0, rfl⟩ := List.mem_map.1 hf
                  have := Hmem.out f0 hf0
                  show (preOf p v ++ f0.1).size ≤ _
                  rw [ByteArray.size_append, preOf_size]
                  omega) (fun f hf => by
                  obtain ⟨f0, hf0, rfl⟩ := List.mem_map.1 hf
                  have := Hmem.out f0 hf0
                  show f0.2.length ≤ _
                  omega)
                unfold SpPost at hsp
                rw [Hst.out, List.length_map] at hsp
                have Hsp := Lib.hid hsp
                clear hm5 hf5 hb5 hc5 hsp hbd
                refine ⟨_, rfl, ?_⟩
                refine x_keep ⟨E3.out, E4.out⟩ ?_
                with_reducible refine x_one ?_
                refine l_call ?_ (Hsp.out.mono ?_)
                · go_simp
                rintro e w6 ⟨hb6, x6, rfl, hm6⟩
                obtain ⟨A6, c6, rfl, hf6⟩ := hm6.own.files
                have hc6 := Cells.of_below hb6
                have Hb6 := Lib.hid (Hb5.out.trans (hb6.mono Hb5.out.size))
                have E3 := Lib.hid (hc6 _ _ E3.out)
                have E4 := Lib.hid (hc6 _ _ E4.out)
                have hsm := samef_any l l A6 A c6 c w6 hf6 (Hf.out.below Hb6.out)
                rw [decide_eq_true rfl] at hsm
                have Hsm := Lib.hid hsm
                clear hb6 hm6 hf6 hc6 hsm
                refine ⟨_, rfl, ?_⟩
                refine x_keep ⟨E3.out, E4.out⟩ ?_
                iterate 5 ((with_reducible refine x_val (v := ?_) ?_ ?_ ?_); rotate_left; (rintro _ _; go_simp; first | done | rfl | (constructor <;> rfl)); exact ⟨E3.out, E4.out⟩)
                with_reducible refine x_end ?_
                simp only [Act.put, List.setIfInBounds_toArray, List.set_cons_zero, List.set_cons_succ]
                go_wp2_with fail
                refine (num_any _ _).mono ?_
                rintro e w7 ⟨rfl, rfl⟩
                go_wp2_with fail
                refine Hsm.out.mono ?_
                rintro e w8 ⟨rfl, nd, rfl⟩
                go_wp2_with fail
                go_ret
                exact ⟨rfl, ⟨Hb6.out.os, Hb6.out.tape, Hb6.out.output, Hb6.out.size, Hb6.out.block⟩⟩
end Go.Proofs.YtfbdjfljgcfikaaDoor

