/-
  The reference network: New.
-/
import Derived.Test.YtpblaclhfcomeaaCopies
namespace Go.Proofs.Ytpblaclhfcomeaa
open Go.RowKit Go.Maps

attribute [local go_sem] lt1 lt2 lt3 lt4 lt5 lt6

def RNewPost (w : World) (ps : List (ByteArray × List UInt8)) (fs : List PFault) (e : Ending) (w' : World) : Prop :=
  Below w.heap.size w w' ∧ ((∃ S rb vp vf vl, newSt ps fs = .ok S ∧ e = .returned (.tuple #[.pointer (some ⟨rb, 0, none⟩), .int .i64 0]) ∧ RefAt w' w.heap.size rb S [] vp vf vl) ∨
    (∃ c, newSt ps fs = .error c ∧ c ≠ 0 ∧ e = .returned (.tuple #[.pointer none, .int .i64 c])))
def RPgRel (w : World) (ps : List (ByteArray × List UInt8)) (iv : Value) (wr : World) : Prop :=
  ∃ (k : Nat) (S : NetSt) (vp vf vl : Value), k ≤ ps.length ∧ iv = .int .i64 k ∧ many addPage emptySt (ps.take k) = .ok S ∧ S.pages.length = k ∧ S.faults = [] ∧ RefAt wr w.heap.size w.heap.size S [] vp vf vl ∧ Below w.heap.size w wr
def RFtRel (w : World) (fs : List PFault) (S0 : NetSt) (iv : Value) (wr : World) : Prop :=
  ∃ (k : Nat) (S : NetSt) (vp vf vl : Value), k ≤ fs.length ∧ iv = .int .i64 k ∧ many addFault S0 (fs.take k) = .ok S ∧ S.faults.length = k ∧ RefAt wr w.heap.size w.heap.size S [] vp vf vl ∧ Below w.heap.size w wr

theorem refAt_made (w : World) : RefAt (w.alloc (.cells #[.slice none 0 0, .slice none 0 0, .slice none 0 0] 69)) w.heap.size w.heap.size emptySt [] (.slice none 0 0) (.slice none 0 0) (.slice none 0 0) :=
  ⟨heap_alloc_new w _, Nat.le_refl _, ⟨[], trivial, World.ownsRow_nil _ _ _ _⟩, ⟨[], trivial, World.ownsRow_nil _ _ _ _⟩, World.ownsRow_nil _ _ _ _, by simp⟩

set_option maxHeartbeats 4000000 in
set_option maxRecDepth 100000 in
theorem rnew_any (w : World) (ps : List (ByteArray × List UInt8)) (fs : List PFault) (A A2 : Option Addr) (c c2 : Nat) (hp : PgAt w A c ps) (hf : FtAt w A2 c2 fs) (hpl : ps.length ≤ 1000) (hfl : fs.length ≤ 1000)
    (hps : ∀ p ∈ ps, p.1.size ≤ 1048576 ∧ p.2.length ≤ 1048576) (hfs : ∀ f ∈ fs, f.u.size ≤ 1048576 ∧ f.data.length ≤ 1048576) :
    Calls Try.prog 15 #[.slice A ps.length c, .slice A2 fs.length c2] w (RNewPost w ps fs) := by
  have Hp := Lib.hid hp
  have Hf := Lib.hid hf
  have Hps := Lib.hid hps
  have Hfs := Lib.hid hfs
  clear hp hf hps hfs
  obtain ⟨i0, hi0, hz0, hz1, hz2⟩ := info_parts infoPage2
  go_enter Try.func15, Try.ntmps15
  go_wp2_with fail
  go_loopw [7] (fun iv wr => RPgRel w ps iv wr) (fun iv _ => ps.length - (intOf iv).toNat)
  case atStart => exact ⟨0, emptySt, _, _, _, by omega, rfl, rfl, rfl, rfl, refAt_made w, (Below.refl _ _).alloc (Nat.le_refl _) _⟩
  case round =>
    obtain ⟨k, S, vp, vf, vl, hk, rfl, hS, hSk, hSf, hR, hB⟩ := hrel
    have HS := Lib.hid hS
    have HSk := Lib.hid hSk
    have HSf := Lib.hid hSf
    have HR := Lib.hid hR
    have HB := Lib.hid hB
    clear hS hR hB hSk hSf
    by_cases hlt : k < ps.length
    · obtain ⟨b, o, rfl, hx⟩ := Hp.out.cells (by omega)
      obtain ⟨p, hpk⟩ : ∃ p, ps[k]? = some p := ⟨_, List.getElem?_eq_getElem hlt⟩
      obtain ⟨hul, hdl⟩ := Hps.out p (List.mem_of_getElem? hpk)
      obtain ⟨g0, _, _, Ai, ci, q0, hbs⟩ := hx k p hpk
      have hbl : b < w.heap.size := World.block_lt_of_cell? w _ g0
      have g1 := Cells.of_below HB.out _ _ g0
      have q1 := Cells.of_below HB.out _ _ q0
      have hbw := Nat.lt_of_lt_of_le hbl HB.out.size
      have hbs1 := hbs.keep (Cells.of_below HB.out)
      have hu63 : p.1.size ≤ 9223372036854775807 := by omega
      have Hpk := Lib.hid hpk
      have Hbs1 := Lib.hid hbs1
      clear hpk hx hbs hbs1 q0 g0
      cases hfit : fitsB p.1 with
      | false =>
        go_wp2_with (first | (go_at_call 37; refine (long_any _ _ hu63).mono ?_; rintro e w' ⟨rfl, rfl⟩; rw [hfit]))
        go_ret2
        refine ⟨HB.out, .inr ⟨13, ?_, by decide, rfl⟩⟩
        unfold newSt
        rw [many_stop addPage emptySt S ps k p 13 HS.out Hpk.out (by unfold addPage; rw [if_pos hfit])]
      | true =>
        go_wp2_with (first | (go_at_call 37; refine (long_any _ _ hu63).mono ?_; rintro e w' ⟨rfl, rfl⟩; rw [hfit]))
        refine (page_any _ w.heap.size w.heap.size S [] vp vf vl p.1 HR.out).mono ?_
        rintro e w1 ⟨r, rfl, hr, n1, rfl⟩
        rcases hr with ⟨i, q, hq, hqu, hfirst, rfl⟩ | ⟨hnone, rfl⟩
        · have hlk : (look S.pages p.1).isSome = true := by
            cases hl : look S.pages p.1 with
            | some y => rfl
            | none => exact absurd (List.mem_map.2 ⟨q, List.mem_of_getElem? hq, hqu⟩) ((look_none _ _).1 hl)
          have Hlk := Lib.hid hlk
          have hir : (0 : Int) ≤ i := by omega
          clear hq hqu hfirst hlk
          go_wp2_with fail
          go_ret2
          refine ⟨Fr.below_drewN HB.out _, .inr ⟨3, ?_, by decide, rfl⟩⟩
          unfold newSt
          rw [many_stop addPage emptySt S ps k p 3 HS.out Hpk.out (by unfold addPage; rw [if_neg (by simp [hfit]), if_pos Hlk.out])]
        · have hlk : look S.pages p.1 = none := (look_none _ _).2 fun hm => by
            obtain ⟨q, hq, e⟩ := List.mem_map.1 hm
            exact hnone q hq e
          have Hlk := Lib.hid hlk
          have Hnone := Lib.hid hnone
          clear hlk hnone
          go_wp2_with fail
          have hx : Below wr.heap.size wr (wr.drewN n1) := Fr.below_drewN (Below.refl _ _) _
          generalize wr.drewN n1 = x at *
          have hRx := HR.out.below hx
          have HBx : Hid (Below w.heap.size w x) := Lib.hid (HB.out.trans (hx.mono HB.out.size))
          have g1 := Cells.of_below hx _ _ g1
          have q1 := Cells.of_below hx _ _ q1
          have hbs2 := Hbs1.out.keep (Cells.of_below hx)
          have hbx : b < x.heap.size := Nat.lt_of_lt_of_le hbl HBx.out.size
          clear HR HB Hbs1 hbw hx
          obtain ⟨cs, h1, h2⟩ := hRx.pages
          obtain ⟨Ap, cp, rfl, _⟩ := own_form h2
          have hpk2 : S.pages.length ≤ 1000 := by have := HSk.out; omega
          have c0 := blk_cells hRx.blk
          have c00 := c0.1 0
          have f00 := c0.2.1 0
          simp at c00
          have rlt := c0.2.2
          have hn1 : some w.heap.size ≠ (Value.slice Ap S.pages.length cp).ownBlock := fun e => by
            obtain ⟨_, cur, h5⟩ := own_blk h2 w.heap.size e.symm
            rw [hRx.blk] at h5
            simp at h5
          have hn2 : some b ≠ (Value.slice Ap S.pages.length cp).ownBlock := fun e => by
            have := (own_blk h2 b e.symm).1
            omega
          have hir : (0 : Int) ≤ k := by omega
          have hil : (k : Int) < ps.length := by omega
          have HRx := Lib.hid hRx
          have Hbs2 := Lib.hid hbs2
          have H1 := Lib.hid h1
          have H2 := Lib.hid h2
          clear hRx hbs2 h1 h2 c0
          have c00x : x.drew.cell? ⟨w.heap.size, 0, none⟩ = some (.slice Ap S.pages.length cp) := c00
          have f00x : x.drew.frozen? ⟨w.heap.size, 0, none⟩ = false := f00
          have g1x : x.drew.cell? ⟨b, o + k * 2, none⟩ = some (.string p.1) := g1
          have hfin : ∀ (z z2 : World) (Av : Option Addr) (cv g cap : Nat), z.ownsRow x.heap.size 5 1 (.slice Av p.2.length cv) p.2.length (u8s p.2) → Below x.heap.size x z →
              z2.ownsRow w.heap.size 94 2 (.slice (some ⟨g, 0, none⟩) (S.pages.length + 1) cap) (S.pages.length + 1) (cs.flatten ++ [.string p.1, .slice Av p.2.length cv]) → (z.alloc (.cells #[.string p.1, .slice Av p.2.length cv] 94)).grownBy z2 (Value.slice Ap S.pages.length cp).ownBlock →
              RPgRel w ps (.int .i64 ((k + 1 : Nat) : Int)) (z2.setCell ⟨w.heap.size, 0, none⟩ (.slice (some ⟨g, 0, none⟩) (S.pages.length + 1) cap)) := by
            intro z z2 Av cv g cap hv hby hown hgrow
            have hbz : Below x.heap.size x (z.alloc (.cells #[.string p.1, .slice Av p.2.length cv] 94)) := hby.alloc hby.size _
            have hbz2 : Below z.heap.size z (z.alloc (.cells #[.string p.1, .slice Av p.2.length cv] 94)) := (Below.refl _ _).alloc (Nat.le_refl _) _
            have hR := HRx.out.below hbz
            obtain ⟨r1, r2⟩ := page_fin hR (H1.out.mono fun _ _ hh => hh.keep fun g c hg => (hbz.block g (lt_of_heap hg)).trans hg) (own_keep H2.out fun g c hg => (hbz.block g (lt_of_heap hg)).trans hg) hown hgrow (d := p.2)
              ⟨own_u8_keep (own_base hv (Nat.zero_le _)) fun g c hg => (hbz2.block g (lt_of_heap hg)).trans hg, hdl⟩ hul
            refine ⟨k + 1, { S with pages := S.pages ++ [(p.1, p.2)] }, _, _, _, by omega, rfl, ?_, by simp [HSk.out], HSf.out, r2, (HBx.out.trans (hbz.mono HBx.out.size)).trans (r1.below (Nat.le_trans HBx.out.size hbz.size))⟩
            rw [take_snoc Hpk.out, many_snoc, HS.out]
            dsimp only
            unfold addPage
            rw [if_neg (by simp [hfit]), if_neg (by rw [Hlk.out]; decide), put_new (Hnone.out)]
          have Hfin := Lib.hid hfin
          clear hfin
          have Hone : Hid (∀ (Av : Option Addr) (cv : Nat), ∀ v ∈ [Value.string p.1, .slice Av p.2.length cv], v.oneCell' = true) := Lib.hid (by
            intro Av cv v hv
            simp only [List.mem_cons, List.not_mem_nil, or_false] at hv
            rcases hv with rfl | rfl <;> rfl)
          have Hnw : Hid (∀ (z : World) (Av : Option Addr) (cv : Nat), ∀ j v, [Value.string p.1, .slice Av p.2.length cv][j]? = some v → (z.alloc (.cells #[.string p.1, .slice Av p.2.length cv] 94)).cell? ((⟨z.heap.size, 0, none⟩ : Addr).add j) = some v) := Lib.hid (by
            intro z Av cv j v hv
            exact World.news_of_block (w := z.alloc _) (heap_alloc_new z _) j v hv)
          have Hown : Hid (∀ (z : World), Below x.heap.size x z → ∀ o', (z.alloc o').ownsRow w.heap.size 94 2 (.slice Ap S.pages.length cp) S.pages.length cs.flatten) := Lib.hid (fun z hby o' =>
            own_keep H2.out fun g c hg => ((Below.heap_alloc z o' g (Nat.lt_of_lt_of_le (lt_of_heap hg) hby.size)).trans (hby.block g (lt_of_heap hg))).trans hg)
          have Hz : Hid (∀ (z : World), Below x.heap.size x z → z.cell? ⟨w.heap.size, 0, none⟩ = some (.slice Ap S.pages.length cp) ∧ z.frozen? ⟨w.heap.size, 0, none⟩ = false ∧ z.cell? ⟨b, o + k * 2, none⟩ = some (.string p.1) ∧ w.heap.size < z.heap.size ∧ b < z.heap.size) := Lib.hid (fun z hby =>
            ⟨(World.cell?_of_block (a := ⟨w.heap.size, 0, none⟩) (hby.block _ rlt)).trans c00, (World.frozen?_of_block (a := ⟨w.heap.size, 0, none⟩) (hby.block _ rlt)).trans f00, (World.cell?_of_block (a := ⟨b, o + k * 2, none⟩) (hby.block _ hbx)).trans g1, Nat.lt_of_lt_of_le rlt hby.size, Nat.lt_of_lt_of_le hbx hby.size⟩)
          go_region_law (first
            | (refine step_append_lies _ (by rfl) _ _ 50 (by rfl) w.heap.size 94 i0 (.agg #[.string ⟨#[]⟩, .slice none 0 0]) 2 40 Try.underlying50 hi0 hz0 hz1 hz2 (by rfl) (by omega) (.slice Ap S.pages.length cp) S.pages.length cs.flatten (by rfl) (Hown.out _ hby.out _) ⟨z.heap.size, 0, none⟩ 1 1 [.string p.1, .slice Av p.2.length cv] (by rfl) (by rfl) (Hnw.out _ _ _) (Hone.out _ _) (by omega) (by simp [maxLen]; omega) (by omega) (by simp; omega) (z.heap.size + 1) (by simp) ?_; intro g cap y hown hgrow hat hlt2; have hfz := (hgrow.frozen_far ⟨w.heap.size, 0, none⟩ (by simp; omega) hn1).trans ((World.frozen?_of_block (a := ⟨w.heap.size, 0, none⟩) (Below.heap_alloc z _ w.heap.size z4)).trans z2); have hcl := (hgrow.cell_far ⟨w.heap.size, 0, none⟩ (by simp; omega) hn1).trans ((World.cell?_alloc_lt z _ ⟨w.heap.size, 0, none⟩ z4).trans z1); have hown := Lib.hid hown; have hgrow := Lib.hid hgrow; clear hat)
            | (go_simp; go_wp2_with (first | (go_at_call 39; refine (bytes_any p.2 Ai ci x.drew hdl (Hbs2.out.keep (fun _ _ hh => hh))).mono ?_; rintro e z ⟨v, rfl, hv, hby⟩; obtain ⟨Av, cv, rfl, _⟩ := own_form hv; have hby : Below x.heap.size x z := ⟨hby.os, hby.tape, hby.output, hby.size, hby.block⟩; obtain ⟨z1, z2, z3, z4, z5⟩ := Hz.out z hby; have hv := Lib.hid hv; have hby := Lib.hid hby))))
          all_goals
            go_wp2
            go_roundw
            case rel => exact Hfin.out z y Av cv g cap hv.out hby.out hown.out hgrow.out
            case measure => simp [intOf]; omega
    · have hkp : k = ps.length := by omega
      have HS0 : Hid (many addPage emptySt ps = .ok S) := Lib.hid (by have := HS.out; rw [List.take_of_length_le (by omega)] at this; exact this)
      clear hkp HS HSk
      go_wp2
      go_loopw [8, 9] (fun iv _ wr => RFtRel w fs S iv wr) (fun iv _ _ => fs.length - (intOf iv).toNat)
      case atStart => exact ⟨0, S, vp, vf, vl, Nat.zero_le _, rfl, rfl, by rw [HSf.out]; rfl, HR.out, HB.out⟩
      case round =>
        clear HR HB hk hlt
        obtain ⟨j, S1, vp, vf, vl, hj, rfl, hS1, hSj, hR, hB⟩ := hrel
        have HS1 := Lib.hid hS1
        have HR := Lib.hid hR
        have HB := Lib.hid hB
        clear hS1 hR hB
        by_cases hlt : j < fs.length
        · obtain ⟨b, o, rfl, hx⟩ := Hf.out.cells (by omega)
          obtain ⟨f, hfj⟩ : ∃ f, fs[j]? = some f := ⟨_, List.getElem?_eq_getElem hlt⟩
          obtain ⟨hul, hdl⟩ := Hfs.out f (List.mem_of_getElem? hfj)
          obtain ⟨_, _, hatt, hkd, hn, Ai, ci, hbs, g⟩ := hx j f hfj
          have hc := Cells.of_below HB.out
          have g0 := hc _ _ (g 0 (by omega))
          have g1 := hc _ _ (g 1 (by omega))
          have g2 := hc _ _ (g 2 (by omega))
          have g3 := hc _ _ (g 3 (by omega))
          have g4 := hc _ _ (g 4 (by omega))
          simp at g0
          have hbs1 := hbs.keep hc
          have Hfj := Lib.hid hfj
          have Hbs1 := Lib.hid hbs1
          have hSl : S1.faults.length ≤ 1000000 := by omega
          clear hfj hbs hbs1 hx g hc
          go_wp2_with fail
          refine (radd_any wr w.heap.size w.heap.size S1 [] vp vf vl f Ai ci HR.out Hbs1.out hdl hul hatt hkd hn hSl).mono ?_
          rintro e w5 ⟨hfr, ⟨cd, hs, hc0, rfl, hR5⟩ | ⟨S2, vf2, hs, rfl, hR5⟩⟩
          · have hcb : (cd != 0) = true := by simpa using hc0
            have Hs := Lib.hid hs
            have Hfr := Lib.hid hfr
            clear hs hR5 hfr
            go_wp2
            go_ret2
            refine ⟨HB.out.trans (Hfr.out.below HB.out.size), .inr ⟨cd, ?_, hc0, rfl⟩⟩
            unfold newSt
            rw [HS0.out]
            exact many_stop _ _ _ _ _ _ _ HS1.out Hfj.out Hs.out
          · have Hs := Lib.hid hs
            have Hfr := Lib.hid hfr
            have HR5 := Lib.hid hR5
            clear hs hR5 hfr
            go_wp2
            go_roundw
            case rel =>
              refine ⟨j + 1, S2, vp, vf2, vl, by omega, by go_num, ?_, ?_, HR5.out, HB.out.trans (Hfr.out.below HB.out.size)⟩
              · rw [take_snoc Hfj.out, many_snoc, HS1.out]
                exact Hs.out
              · obtain ⟨hS2, _, _, _, _, _, q6⟩ := add_ok Hs.out
                rw [hS2]
                unfold NetSt.add put
                dsimp only
                rw [q6]
                simp [hSj]
            case measure => simp [intOf]; omega
        · have hjf : j = fs.length := by omega
          go_wp2
          go_ret2
          refine ⟨HB.out, .inl ⟨S1, _, vp, vf, vl, ?_, rfl, HR.out⟩⟩
          unfold newSt
          rw [HS0.out]
          have := HS1.out
          rw [List.take_of_length_le (by omega)] at this
          exact this
end Go.Proofs.Ytpblaclhfcomeaa
