/-
  NetPlays: every request gets just what the script says: the walk.
-/
import Derived.Test.YtpblaclhfcomeaaPlaysStep
import Derived.Test.YtpblaclhfcomeaaFewOps
import Derived.Test.YtpblaclhfcomeaaRefNew
import Derived.Test.YtpblaclhfcomeaaCopies
namespace Go.Proofs.Ytpblaclhfcomeaa
open Go.RowKit Go.Maps

attribute [local go_sem] lt1 lt2 lt3 lt4 lt5 lt6

def PlayRel (w0 : World) (nb pb fb ab B rb len : Nat) (iv : Value) (wr : World) : Prop :=
  ∃ (i : Nat) (S : NetSt) (log : List ByteArray), i ≤ len ∧ iv = .int .i64 i ∧ PSt w0 nb pb fb ab B rb S log i wr
def PlayPost (w : World) (e : Ending) (w' : World) : Prop := e = .returned (.bool true) ∧ Below w.heap.size w w'

set_option maxHeartbeats 4000000 in
set_option maxRecDepth 100000 in
theorem plays_any (w : World) (ps : List (ByteArray × List UInt8)) (fs : List PFault) (qs : List POp) (A A2 A3 : Option Addr) (c c2 c3 : Nat) (hp : PgAt w A c ps) (hf : FtAt w A2 c2 fs) (hq : OpAt w A3 c3 qs)
    (hps : ∀ p ∈ ps, p.1.size ≤ 1048575 ∧ p.2.length ≤ 1048575) (hfs : ∀ f ∈ fs, f.u.size ≤ 1048575 ∧ f.data.length ≤ 1048575) :
    Calls Try.prog 5 #[.slice A ps.length c, .slice A2 fs.length c2, .slice A3 qs.length c3] w (PlayPost w) := by
  have Hp := Lib.hid hp
  have Hf := Lib.hid hf
  have Hq := Lib.hid hq
  have Hps := Lib.hid hps
  have Hfs := Lib.hid hfs
  clear hp hf hq hps hfs
  go_enter Try.func5, Try.ntmps5
  go_wp2_with fail
  refine (first_any _).mono ?_
  rintro e w1 ⟨rfl, hB1⟩
  have HB1 := Lib.hid hB1
  clear hB1
  go_wp2_with fail
  refine (few_ops _ ps fs qs A A2 A3 c c2 c3 (Hp.out.keep (Cells.of_below HB1.out)) (Hf.out.keep (Cells.of_below HB1.out)) (Hq.out.keep (Cells.of_below HB1.out))).mono ?_
  rintro e w2 ⟨small, rfl, hsmall, n1, rfl⟩
  have hbd : Below w.heap.size w (w1.drewN n1) := Fr.below_drewN HB1.out _
  generalize w1.drewN n1 = w2 at *
  cases small with
  | false =>
    clear hsmall
    have HB2 := Lib.hid hbd
    clear hbd
    go_wp2
    go_ret
    exact ⟨rfl, HB2.out⟩
  | true =>
    obtain ⟨hp1, hf1, hq1⟩ := hsmall rfl
    have HB2 := Lib.hid hbd
    clear hbd hsmall
    go_wp2_with fail
    refine (new_any _ ps fs A A2 c c2 (Hp.out.keep (Cells.of_below HB2.out)) (Hf.out.keep (Cells.of_below HB2.out))).mono ?_
    rintro e w3 ⟨hb3, hnew⟩
    have HB3 : Hid (Below w.heap.size w w3) := Lib.hid (Bl.trans HB2.out hb3)
    rcases hnew with ⟨S, nb, pb, fb, ab, hS, rfl, hN, hn1, hn2, hn3, hn4⟩ | ⟨c0, hc, hc0, rfl⟩
    rotate_left
    · have Hc := Lib.hid hc
      have hcb : (c0 != 0) = true := by simpa using hc0
      clear hb3 hc hc0
      go_wp2_with fail
      refine (pages_any w3 ps A c (Hp.out.keep (Cells.of_below HB3.out)) (by omega)).mono ?_
      rintro e w4 ⟨A4, c4, rfl, hpg, hb4⟩
      have HB4 : Hid (Below w.heap.size w w4) := Lib.hid (Bl.trans HB3.out hb4)
      have Hpg := Lib.hid hpg
      clear hb4 hpg
      go_wp2_with fail
      refine (faults_any w4 fs A2 c2 (Hf.out.keep (Cells.of_below HB4.out)) (by omega)).mono ?_
      rintro e w5 ⟨A5, c5, rfl, hft, hb5⟩
      have HB5 : Hid (Below w.heap.size w w5) := Lib.hid (Bl.trans HB4.out hb5)
      have Hpg5 := Lib.hid (Hpg.out.keep (Cells.of_below hb5))
      have Hft := Lib.hid hft
      clear hb5 hft Hpg
      go_wp2_with fail
      refine (rnew_any w5 ps fs A4 A5 c4 c5 Hpg5.out Hft.out (by omega) (by omega) (fun p hp => ⟨by have := (Hps.out p hp).1; omega, by have := (Hps.out p hp).2; omega⟩) (fun p hp => ⟨by have := (Hfs.out p hp).1; omega, by have := (Hfs.out p hp).2; omega⟩)).mono ?_
      rintro e w6 ⟨hb6, ⟨S, rb, vp, vf, vl, hS, _⟩ | ⟨c1, hc1, _, rfl⟩⟩
      · rw [Hc.out] at hS; cases hS
      · obtain rfl : c0 = c1 := by
          have := Hc.out.symm.trans hc1
          injection this
        have HB6 : Hid (Below w.heap.size w w6) := Lib.hid (Bl.trans HB5.out hb6)
        clear hc1 hb6
        go_wp2_with (first | (go_at_call 9; refine (num_any _ _).mono ?_; rintro e w' ⟨rfl, rfl⟩))
        by_cases h0 : 0 < qs.length
        all_goals
          refine wp_loop_rounds 1 ?_
          rw [rounds_succ]
          go_wp2
          all_goals
            go_ret
            exact ⟨rfl, HB6.out⟩
    · have HS := Lib.hid hS
      have HN := Lib.hid hN
      have hlow : ∀ k ∈ [nb, pb, fb, ab], w.heap.size ≤ k := by
        have := HB2.out.size
        intro k hk
        simp only [List.mem_cons, List.not_mem_nil, or_false] at hk
        rcases hk with rfl | rfl | rfl | rfl <;> omega
      have Hlow := Lib.hid hlow
      clear hb3 hS hN hlow hn1 hn2 hn3 hn4
      go_wp2_with fail
      refine (pages_any w3 ps A c (Hp.out.keep (Cells.of_below HB3.out)) (by omega)).mono ?_
      rintro e w4 ⟨A4, c4, rfl, hpg, hb4⟩
      have HB4 : Hid (Below w.heap.size w w4) := Lib.hid (Bl.trans HB3.out hb4)
      have Hpg := Lib.hid hpg
      have HN4 := Lib.hid (HN.out.below hb4)
      clear hb4 hpg
      go_wp2_with fail
      refine (faults_any w4 fs A2 c2 (Hf.out.keep (Cells.of_below HB4.out)) (by omega)).mono ?_
      rintro e w5 ⟨A5, c5, rfl, hft, hb5⟩
      have HB5 : Hid (Below w.heap.size w w5) := Lib.hid (Bl.trans HB4.out hb5)
      have Hpg5 := Lib.hid (Hpg.out.keep (Cells.of_below hb5))
      have Hft := Lib.hid hft
      have HN5 := Lib.hid (HN4.out.below hb5)
      clear hb5 hft Hpg HN4
      go_wp2_with fail
      refine (rnew_any w5 ps fs A4 A5 c4 c5 Hpg5.out Hft.out (by omega) (by omega) (fun p hp => ⟨by have := (Hps.out p hp).1; omega, by have := (Hps.out p hp).2; omega⟩) (fun p hp => ⟨by have := (Hfs.out p hp).1; omega, by have := (Hfs.out p hp).2; omega⟩)).mono ?_
      rintro e w6 ⟨hb6, ⟨S2, rb, vp, vf, vl, hS2, rfl, hR⟩ | ⟨c1, hc1, _⟩⟩
      rotate_left
      · rw [HS.out] at hc1; cases hc1
      · obtain rfl : S = S2 := by
          have := HS.out.symm.trans hS2
          injection this
        have hst : PSt w nb pb fb ab w5.heap.size rb S [] 0 w6 := by
          obtain ⟨_, _, _, b4, b5⟩ := newBuilt HS.out
          exact ⟨HN5.out.below hb6, ⟨vp, vf, vl, hR⟩, newKin HS.out, by simp, by omega, by omega, Bl.trans HB5.out hb6⟩
        have Hst := Lib.hid hst
        have hB : w.heap.size ≤ w5.heap.size := HB5.out.size
        clear hb6 hS2 hR hst Hpg5 Hft HN5 HB4 HB3 HN
        generalize w5.heap.size = B at *
        clear HB5
        go_wp2_with (first | (go_at_call 9; refine (num_any _ _).mono ?_; rintro e w' ⟨rfl, rfl⟩))
        go_loopw [13] (fun iv wr => PlayRel w nb pb fb ab B rb qs.length iv wr) (fun i _ => qs.length - (intOf i).toNat)
        case atStart => exact ⟨0, S, [], by omega, rfl, Hst.out⟩
        case round =>
          clear HS Hst
          obtain ⟨i, S, log, hi, rfl, hst⟩ := hrel
          have Hst := Lib.hid hst
          clear hst
          by_cases hlt : i < qs.length
          · obtain ⟨b3, o3, rfl, hx⟩ := (Hq.out.keep (Cells.of_below Hst.out.below)).cells (by omega)
            obtain ⟨q, hqi⟩ : ∃ q, qs[i]? = some q := ⟨_, List.getElem?_eq_getElem hlt⟩
            have hin := hx i q hqi
            obtain ⟨Ab, cb, Ad, cd, hbs, hds, g⟩ := hin.cells
            have g0 : wr.cell? ⟨b3, o3 + i * 8, none⟩ = some (.int .i64 q.kind) := g 0 (by omega)
            have g1 : wr.cell? ⟨b3, o3 + i * 8 + 1, none⟩ = some (.string q.u) := g 1 (by omega)
            have g2 : wr.cell? ⟨b3, o3 + i * 8 + 2, none⟩ = some (.slice Ab q.b.length cb) := g 2 (by omega)
            have g3 : wr.cell? ⟨b3, o3 + i * 8 + 3, none⟩ = some (.string q.f.u) := g 3 (by omega)
            have g4 : wr.cell? ⟨b3, o3 + i * 8 + 4, none⟩ = some (.int .i64 q.f.att) := g 4 (by omega)
            have g5 : wr.cell? ⟨b3, o3 + i * 8 + 5, none⟩ = some (.int .i64 q.f.kind) := g 5 (by omega)
            have g6 : wr.cell? ⟨b3, o3 + i * 8 + 6, none⟩ = some (.int .i64 q.f.n) := g 6 (by omega)
            have g7 : wr.cell? ⟨b3, o3 + i * 8 + 7, none⟩ = some (.slice Ad q.f.data.length cd) := g 7 (by omega)
            obtain ⟨b0, o0, he0, hx0⟩ := Hq.out.cells (by omega)
            obtain ⟨Ab0, cb0, Ad0, cd0, hbs0, hds0, gg0⟩ := (hx0 i q hqi).cells
            simp only [Option.some.injEq, Addr.mk.injEq, and_true] at he0
            obtain ⟨rfl, rfl⟩ := he0
            have hkb := Cells.of_below Hst.out.below
            obtain ⟨rfl, rfl⟩ : Ab0 = Ab ∧ cb0 = cb := by
              have h1 := hkb _ _ ((gg0 2 (by omega)).trans rfl)
              rw [g2] at h1
              simp [opCells] at h1
              exact ⟨h1.1.symm, h1.2.symm⟩
            obtain ⟨rfl, rfl⟩ : Ad0 = Ad ∧ cd0 = cd := by
              have h1 := hkb _ _ ((gg0 7 (by omega)).trans rfl)
              rw [g7] at h1
              simp [opCells] at h1
              exact ⟨h1.1.symm, h1.2.symm⟩
            have Hin := Lib.hid hin
            have Hbs0 := Lib.hid hbs0
            have Hds0 := Lib.hid hds0
            have hus : q.u.size ≤ 1048576 := by have := hin.usz; omega
            have hum : q.u.size ≤ maxLen := by unfold maxLen; omega
            have hlen9 : i ≤ 200 := by omega
            clear hin hbs hds hbs0 hds0 g gg0 hx hx0 hqi hkb
            have hob : ∀ O, (wr.alloc O).heap[wr.heap.size]? = some O := fun O => heap_alloc_new wr O
            have hbx : ∀ O, Below wr.heap.size wr (wr.alloc O) := fun O => (Below.refl _ _).alloc (Nat.le_refl _) O
            have Hob := Lib.hid hob
            have Hbx := Lib.hid hbx
            clear hob hbx
            by_cases q0 : q.kind = 0
            · have k0 : (q.kind == 0) = true := by simp [q0]
              clear q0
              go_wp2_with fail
              have hob := Hob.out (.cells #[.int .i64 q.kind, .string q.u, .slice Ab0 q.b.length cb0, .string q.f.u, .int .i64 q.f.att, .int .i64 q.f.kind, .int .i64 q.f.n, .slice Ad0 q.f.data.length cd0] 55)
              have hbx := Hbx.out (.cells #[.int .i64 q.kind, .string q.u, .slice Ab0 q.b.length cb0, .string q.f.u, .int .i64 q.f.att, .int .i64 q.f.kind, .int .i64 q.f.n, .slice Ad0 q.f.data.length cd0] 55)
              generalize wr.alloc (.cells #[.int .i64 q.kind, .string q.u, .slice Ab0 q.b.length cb0, .string q.f.u, .int .i64 q.f.att, .int .i64 q.f.kind, .int .i64 q.f.n, .slice Ad0 q.f.data.length cd0] 55) = x at *
              have Hsx := Lib.hid (Hst.out.later hbx)
              clear hbx Hbx Hob Hst g0 g1 g2 g3 g4 g5 g6 g7
              generalize wr.heap.size = ob at *
              have co := blk_cells hob
              obtain ⟨vp, vf, vl, href⟩ := Hsx.out.ref
              have Href := Lib.hid href
              have hcn : nth S q.u < 4611686018427387904 := by have h1 := Hsx.out.kin.cnt q.u; have h2 := cnt_le log q.u; have h3 := Hsx.out.ll; omega
              obtain ⟨st, l, tk, hans⟩ : ∃ st l tk, ansOf S q.u = (st, l, tk) := ⟨_, _, _, rfl⟩
              have hle := Hsx.out.net.ans_le hum hcn
              rw [hans] at hle
              have hll6 : log.length ≤ 1000000 := by have h3 := Hsx.out.ll; omega
              have Hans := Lib.hid hans
              have Hob := Lib.hid hob
              have cox := co.1 1
              have colt := co.2.2
              simp at cox
              clear hans hob co href
              go_region_held3 (fun w' => w'.cell? ⟨ob, 1, none⟩ = some (.string q.u))
                (first | exact cox | exact coy | exact coz | exact cot)
                (first
                  | (go_at_call 10; (refine (get_at x.drew nb pb fb ab S q.u st l tk l.length rfl (Hsx.out.net.below (Below.refl x.heap.size x).drew) hum hcn Hans.out).mono ?_; rintro e y ⟨A1, rfl, hO, hA, hN, hF⟩; have hF : Fr [ab] x y := ⟨hF.os, hF.tape, hF.output, hF.size, hF.block⟩; have hoy := (hF.block ob colt (by have := (Hsx.out.net.not_cells Hob.out).2.2; simpa using this)).trans Hob.out; have coy : y.cell? ⟨ob, 1, none⟩ = some (.string q.u) := (blk_cells hoy).1 1; have HO := Lib.hid hO; have HA : Hid (∀ a, A1 = some a → x.heap.size ≤ a.block) := Lib.hid hA; have HN := Lib.hid hN; have HF := Lib.hid hF; have Hoy := Lib.hid hoy; clear hO hA hN hF hoy))
                  | (go_at_call 19; refine (rget_at y B rb S log vp vf vl q.u st tk l Hans.out (Href.out.net_fr Hsx.out.net HF.out (by simp)) hus hll6 Hsx.out.kin Hsx.out.net.kinds).mono ?_; rintro e z ⟨vl2, A2, c2, rfl, hT, hrows, hbs⟩; have hoz := (hT.block ob (lt_of_heap Hoy.out) (.inr (by rintro ⟨cs, t, h1, h2⟩; rw [Hoy.out] at h1; simp only [Option.some.injEq, Obj.cells.injEq] at h1; obtain ⟨_, rfl, _⟩ := h1; revert h2; unfold RefTy; decide))).trans Hoy.out; have coz : z.cell? ⟨ob, 1, none⟩ = some (.string q.u) := (blk_cells hoz).1 1; have HT := Lib.hid hT; have Hrows := Lib.hid hrows; have HbsZ := Lib.hid hbs; have Hoz := Lib.hid hoz; clear hT hrows hbs hoz)
                  | (go_at_call 18; refine (answer_any z st tk l A1 A2 c2 (HO.out.frT HT.out) HbsZ.out hle).mono ?_; rintro e t ⟨rfl, hW⟩; have hot := (hW.block ob (lt_of_heap Hoz.out) (fun hm => by have := mem_blk HA.out hm; omega)).trans Hoz.out; have cot : t.cell? ⟨ob, 1, none⟩ = some (.string q.u) := (blk_cells hot).1 1; have HW := Lib.hid hW; have Hot := Lib.hid hot; clear hW hot))
              have hdone := get_done Hsx.out hus HN.out HO.out HA.out HF.out Href.out HT.out Hrows.out HW.out (Hlow.out ab (by simp)) hB
              obtain ⟨S9, hS9⟩ : ∃ S9, S9 = S.ask q.u := ⟨_, rfl⟩
              obtain ⟨log9, hlog9⟩ : ∃ log9, log9 = log ++ [q.u] := ⟨_, rfl⟩
              rw [← hS9, ← hlog9] at hdone
              have HP := Lib.hid hdone
              have ct := (blk_cells Hot.out).2.2
              clear hdone hS9 hlog9 Hot HW HT Hrows HbsZ Hoz HO HA HN HF Hoy coy coz cox Href Hob Hsx Hans
              go_wp2_with fail
              obtain ⟨vp9, vf9, vl9, href9⟩ := HP.out.ref
              have hbl9 := blk_cells href9.blk
              have crb : t.cell? ⟨rb, 2, none⟩ = some vl9 := hbl9.1 2
              obtain ⟨Al9, cl9, hvl9, _⟩ := own_form href9.lrow
              subst hvl9
              have hrbl := hbl9.2.2
              have hlog9 : log9.length ≤ 201 := by have := HP.out.ll; omega
              have hasl : S9.asked.length ≤ 1048576 := by have := HP.out.kin.tidy.len; omega
              have Href9 := Lib.hid href9
              clear href9 hbl9
              go_region_held3 (fun w' => w'.cell? ⟨rb, 2, none⟩ = some (.slice Al9 log9.length cl9))
                (first | exact crb | exact cry | exact crz)
                (first
                  | (go_at_call 13; refine (urls_any _ nb pb fb ab S9 (HP.out.net.below (Below.refl t.heap.size t).drew) hasl).mono ?_; rintro e y ⟨v1, ss, rfl, hpm, hso, hrow, _, hF1⟩; obtain ⟨Av, cv, rfl, hsl⟩ := row_sl hrow; have hby : Below t.heap.size t y := ⟨hF1.os, hF1.tape, hF1.output, hF1.size, fun k hk => hF1.block k hk (by simp)⟩; have cry := (World.cell?_of_block (a := ⟨rb, 2, none⟩) (hby.block rb hrbl)).trans crb; have Hpm := Lib.hid hpm; have Hso := Lib.hid hso; have Hsl := Lib.hid hsl; have Hby := Lib.hid hby; clear hpm hso hsl hby hF1 hrow)
                  | (go_at_call 28; refine (rising_any y log9 Al9 cl9 (sl_of_own (Href9.out.below Hby.out).lrow) (by omega)).mono ?_; rintro e z ⟨v2, o, rfl, hris, hrow2, hbz⟩; obtain ⟨Ao, co, rfl, hslo⟩ := row_sl hrow2; have hbtz : Below t.heap.size t z := Bl.trans Hby.out hbz; have crz := (World.cell?_of_block (a := ⟨rb, 2, none⟩) (hbtz.block rb hrbl)).trans crb; have Hris := Lib.hid hris; have Hslz := Lib.hid (Hsl.out.keep (Cells.of_below hbz)); have Hslo := Lib.hid hslo; have Hbz := Lib.hid hbtz; clear hris hrow2 hbz hslo hbtz)
                  | (go_at_call 27; refine (texts_at (ss.map strB) o Av Ao ss.length o.length cv co z (by simp) rfl (sl_of_enc Hslz.out) Hslo.out (texts_same HP.out.kin Hpm.out Hso.out Hris.out)).mono ?_; rintro e s1 ⟨rfl, n9, rfl⟩))
              have hbs1 : Below t.heap.size t (z.drewN n9) := Fr.below_drewN Hbz.out _
              generalize z.drewN n9 = s1 at *
              have HP1 := Lib.hid (HP.out.later hbs1)
              have cos1 := (World.cell?_of_block (a := ⟨ob, 1, none⟩) (hbs1.block ob ct)).trans cot
              have crs1 := (World.cell?_of_block (a := ⟨rb, 2, none⟩) (hbs1.block rb hrbl)).trans crb
              have ct1 := Nat.lt_of_lt_of_le ct hbs1.size
              have hrb1 := Nat.lt_of_lt_of_le hrbl hbs1.size
              clear Hbz Hslo Hslz Hris crz Hby Hsl Hso Hpm cry Href9 HP crb hbs1 cot ct hrbl
              have hnc := HP1.out.kin.cnt q.u
              have htot := HP1.out.kin.tidy.sum
              have Hnc := Lib.hid hnc
              have Htot := Lib.hid htot
              clear hnc htot
              obtain ⟨vp8, vf8, vl8, href8⟩ := HP1.out.ref
              have hvl8 : vl8 = .slice Al9 log9.length cl9 := by
                have h1 := (blk_cells href8.blk).1 2
                rw [crs1] at h1
                simpa using h1.symm
              subst hvl8
              have Href8 := Lib.hid href8
              clear href8
              go_wp2_with fail
              go_region_held3 (fun w' => w'.cell? ⟨ob, 1, none⟩ = some (.string q.u) ∧ w'.cell? ⟨rb, 2, none⟩ = some (.slice Al9 log9.length cl9))
                (first | exact ⟨cos1, crs1⟩ | exact ⟨coy2, cry2⟩ | exact ⟨cou2, cru2⟩)
                (first
                  | (go_at_call 12; refine (asked_any _ nb pb fb ab S9 q.u (HP1.out.net.below (Below.refl s1.heap.size s1).drew) hum).mono ?_; rintro e y2 ⟨he2, _, hF2⟩; rw [Hnc.out] at he2; subst he2; have hby2 : Below s1.heap.size s1 y2 := ⟨hF2.os, hF2.tape, hF2.output, hF2.size, fun k hk => hF2.block k hk (by simp)⟩; have coy2 := (World.cell?_of_block (a := ⟨ob, 1, none⟩) (hby2.block ob ct1)).trans cos1; have cry2 := (World.cell?_of_block (a := ⟨rb, 2, none⟩) (hby2.block rb hrb1)).trans crs1; have Hby2 := Lib.hid hby2; clear hby2 hF2)
                  | (go_at_call 29; refine (asks_any y2 B rb S9 log9 _ _ _ q.u (Href8.out.below Hby2.out)).mono ?_; rintro e z2 ⟨rfl, n8, rfl⟩)
                  | (go_at_call 14; refine (total_any (y2.drewN n8) nb pb fb ab S9 (HP1.out.net.below (Fr.below_drewN Hby2.out n8)) (by rw [Htot.out]; omega)).mono ?_; rintro e u2 ⟨he3, _, hF3⟩; rw [Htot.out] at he3; subst he3; have hbu2 : Below s1.heap.size s1 u2 := (Fr.below_drewN Hby2.out n8).trans (hF3.below (Fr.below_drewN Hby2.out n8).size (by simp)); have cou2 := (World.cell?_of_block (a := ⟨ob, 1, none⟩) (hbu2.block ob ct1)).trans cos1; have cru2 := (World.cell?_of_block (a := ⟨rb, 2, none⟩) (hbu2.block rb hrb1)).trans crs1; have Hbu2 := Lib.hid hbu2; clear hbu2 hF3))
              go_wp2_with fail
              go_roundw
              case rel => exact ⟨i + 1, S9, log9, by omega, by go_num, HP1.out.later Hbu2.out⟩
              case measure => simp [intOf]; omega
            · by_cases q1 : q.kind = 1
              · have k0 : (q.kind == 0) = false := by simp [q1]
                have k1 : (q.kind == 1) = true := by simp [q1]
                clear q0 q1
                go_wp2_with fail
                have hob := Hob.out (.cells #[.int .i64 q.kind, .string q.u, .slice Ab0 q.b.length cb0, .string q.f.u, .int .i64 q.f.att, .int .i64 q.f.kind, .int .i64 q.f.n, .slice Ad0 q.f.data.length cd0] 55)
                have hbx := Hbx.out (.cells #[.int .i64 q.kind, .string q.u, .slice Ab0 q.b.length cb0, .string q.f.u, .int .i64 q.f.att, .int .i64 q.f.kind, .int .i64 q.f.n, .slice Ad0 q.f.data.length cd0] 55)
                generalize wr.alloc (.cells #[.int .i64 q.kind, .string q.u, .slice Ab0 q.b.length cb0, .string q.f.u, .int .i64 q.f.att, .int .i64 q.f.kind, .int .i64 q.f.n, .slice Ad0 q.f.data.length cd0] 55) = x at *
                have Hsx := Lib.hid (Hst.out.later hbx)
                clear hbx Hbx Hob Hst g0 g1 g2 g3 g4 g5 g6 g7
                generalize wr.heap.size = ob at *
                have co := blk_cells hob
                obtain ⟨vp, vf, vl, href⟩ := Hsx.out.ref
                have Href := Lib.hid href
                have hbl := Hin.out.bsz
                have Hobx := Lib.hid hob
                clear hob href
                refine (lent_any q.b Ab0 cb0 x hbl (Hbs0.out.keep (Cells.of_below Hsx.out.below))).mono ?_
                rintro e w1' ⟨g, cap, rfl, hL, hbL⟩
                have hob1 := (hbL.block ob co.2.2).trans Hobx.out
                have co1 := blk_cells hob1
                have HL := Lib.hid hL
                have HbL := Lib.hid hbL
                have Hob1 := Lib.hid hob1
                clear hL hbL hob1 co
                obtain ⟨o1, po1, T1⟩ := Hsx.out.net.pages
                have hpx := Hsx.out.net.lt pb (by simp)
                have hr8 : Rows8 x w1' := Rows8.of_fr (Fr.of_below HbL.out []) (by simp)
                have HT1 := Lib.hid T1
                have Hpo1 := Lib.hid ((HbL.out.block pb hpx).trans po1)
                have Hr8 := Lib.hid hr8
                clear po1 T1 hr8
                go_wp2_with fail
                refine (nset_any w1' nb pb fb ab S (RPage x) q.u (some ⟨g, 0, none⟩) q.b cap (Hsx.out.net.below HbL.out) (fun v d hv => hv.keep Hr8.out) o1 Hpo1.out HT1.out hum HL.out.bs (by omega)).mono ?_
                rintro e y hS
                have he := hS.code
                subst he
                have hFs := hS.fr
                have hbly : LentAt y x.heap.size g cap q.b := own_keep HL.out fun k cs hk => (hFs.block k (lt_of_heap hk) (by simp; exact ((Hsx.out.net.below HbL.out).not_cells hk).1)).trans hk
                have hoby := (hFs.block ob co1.2.2 (by simp; exact ((Hsx.out.net.below HbL.out).not_cells Hob1.out).1)).trans Hob1.out
                have hBy := (set_mid Hsx.out HbL.out HL.out hFs (Fr.refl _ _) Href.out (Hlow.out pb (by simp))).2.1
                obtain ⟨cd, hcd⟩ : ∃ cd : Int, cd = if fitsB q.u = true then 0 else 13 := ⟨_, rfl⟩
                rw [← hcd] at hS ⊢
                have Hcd := Lib.hid hcd
                have HS := Lib.hid hS
                have HFs := Lib.hid hFs
                have Hbly := Lib.hid hbly
                have coy := blk_cells hoby
                have Hoby := Lib.hid hoby
                have hbsy := Hbs0.out.keep (Cells.of_below hBy)
                have Hbsy := Lib.hid hbsy
                clear hcd hS hFs hbly hoby hBy hbsy co1 HT1 Hpo1 Hr8 Hob1
                go_wp2_with fail
                refine (kept_any q.b x.heap.size g cap Ab0 cb0 y hbl Hbly.out Hbsy.out).mono ?_
                rintro e y1 ⟨rfl, n5, rfl⟩
                go_wp2_with fail
                go_loopw [18] (fun kv wr2 => FillRel y g q.b.length kv wr2) (fun kv _ => q.b.length - (intOf kv).toNat)
                case atStart =>
                  obtain ⟨cs, hcs, hsz⟩ := Hbly.out.size
                  exact ⟨0, by omega, rfl, (Fr.refl [g] y).drewN n5, cs, hcs, hsz⟩
                case round =>
                  obtain ⟨k, hk, rfl, hfr, cs, hcs, hsz⟩ := hrel
                  have Hfr := Lib.hid hfr
                  have Hcs := Lib.hid hcs
                  clear hfr hcs
                  by_cases hkl : k < q.b.length
                  · have hcell : wr.cell? ⟨g, k, none⟩ = some (cs[k]'(by omega)) := by
                      rw [(blk_cells Hcs.out).1, Array.getElem?_eq_getElem]
                    have hfz := (blk_cells Hcs.out).2.1 k
                    have hir : (0 : Int) ≤ k := by omega
                    generalize cs[k]'(by omega) = old at *
                    go_wp2_with fail
                    go_roundw
                    case rel => exact ⟨k + 1, by omega, by go_num, Hfr.out.trans (Fr.setCell _ _ _ _ (by simp)), _, heap_setCell_at Hcs.out k _, by simpa using hsz⟩
                    case measure => simp [intOf]; omega
                  · have hgb := (own_blk Hbly.out g rfl).1
                    have hox : ob < x.heap.size := lt_of_heap Hobx.out
                    have hobt := (Hfr.out.block ob coy.2.2 (by simp; omega)).trans Hoby.out
                    have cob := blk_cells hobt
                    obtain ⟨hrt, hbt, _⟩ := set_mid Hsx.out HbL.out HL.out HFs.out Hfr.out Href.out (Hlow.out pb (by simp))
                    have Hrt := Lib.hid hrt
                    have Hbt := Lib.hid hbt
                    have Hobt := Lib.hid hobt
                    have hBt : B ≤ wr.heap.size := Nat.le_trans hrt.hb (Nat.le_of_lt (lt_of_heap hrt.blk))
                    clear coy hobt hrt hbt Hoby Hbsy Hcs
                    go_wp2_with fail
                    have hcw := cob.1 1
                    have hcw2 := cob.1 2
                    simp at hcw hcw2
                    have hplen : S.pages.length ≤ 1000000 := by have := Hsx.out.pl; omega
                    have hd0 : ∀ x', FrT B wr.drew x' → Bs x' Ab0 cb0 q.b := fun x' hf => Hbs0.out.keep (Cells.of_below (Hbt.out.drew.trans ((hf.below hBt).mono hB)))
                    have Hd0 := Lib.hid hd0
                    have Hrt2 := Lib.hid (Hrt.out.below (Below.refl wr.heap.size wr).drew)
                    clear hd0 cob
                    go_region_held3 (fun w' => w'.cell? ⟨ob, 1, none⟩ = some (.string q.u) ∧ w'.cell? ⟨ob, 2, none⟩ = some (.slice Ab0 q.b.length cb0))
                      (first | exact ⟨hcw, hcw2⟩ | exact ⟨cot, cot2⟩)
                      (first
                        | (go_at_call 9; refine (num_any _ _).mono ?_; rintro e w' ⟨rfl, rfl⟩)
                        | (go_at_call 23; refine (rset_any wr.drew B rb S log vp vf vl q.u q.b Ab0 cb0 Hrt2.out Hd0.out (by omega) hus Hsx.out.kin.pnd hplen).mono ?_; rintro e t hpost; have he := hpost.code; subst he; rw [← Hcd.out] at hpost ⊢; have hot := (hpost.1.block ob (lt_of_heap Hobt.out) (.inr (by rintro ⟨cs, t, h1, h2⟩; rw [show wr.drew.heap[ob]? = wr.heap[ob]? from rfl, Hobt.out] at h1; simp only [Option.some.injEq, Obj.cells.injEq] at h1; obtain ⟨_, rfl, _⟩ := h1; revert h2; unfold RefTy; decide))).trans Hobt.out; have cot : t.cell? ⟨ob, 1, none⟩ = some (.string q.u) := (blk_cells hot).1 1; have cot2 : t.cell? ⟨ob, 2, none⟩ = some (.slice Ab0 q.b.length cb0) := (blk_cells hot).1 2; have Hpost := Lib.hid hpost; have Hot := Lib.hid hot; clear hpost hot))
                    all_goals
                      have hdone := set_done Hsx.out HbL.out HL.out (by rw [← Hcd.out]; exact HS.out) (Hfr.out.drewN 1) Href.out (fun _ => by rw [← Hcd.out]; exact Hpost.out) (Hlow.out pb (by simp)) hB hbl
                      obtain ⟨S9, _, hdone⟩ := hdone
                      obtain ⟨log9, hlog9⟩ : ∃ log9, log9 = log := ⟨_, rfl⟩
                      rw [← hlog9] at hdone
                      have HP := Lib.hid hdone
                      have ct := (blk_cells Hot.out).2.2
                      clear hdone hlog9 Hot Hpost Hrt2 Hd0 Hobt Hbt Hrt Hfr HS HFs Hbly Href HL HbL Hcd hcw hcw2 cot2
                      go_wp2_with fail
                      obtain ⟨vp9, vf9, vl9, href9⟩ := HP.out.ref
                      have hbl9 := blk_cells href9.blk
                      have crb : t.cell? ⟨rb, 2, none⟩ = some vl9 := hbl9.1 2
                      obtain ⟨Al9, cl9, hvl9, _⟩ := own_form href9.lrow
                      subst hvl9
                      have hrbl := hbl9.2.2
                      have hlog9 : log9.length ≤ 201 := by have := HP.out.ll; omega
                      have hasl : S9.asked.length ≤ 1048576 := by have := HP.out.kin.tidy.len; omega
                      have Href9 := Lib.hid href9
                      clear href9 hbl9
                      go_region_held3 (fun w' => w'.cell? ⟨rb, 2, none⟩ = some (.slice Al9 log9.length cl9))
                        (first | exact crb | exact cry | exact crz)
                        (first
                          | (go_at_call 13; refine (urls_any _ nb pb fb ab S9 (HP.out.net.below (Below.refl t.heap.size t).drew) hasl).mono ?_; rintro e y ⟨v1, ss, rfl, hpm, hso, hrow, _, hF1⟩; obtain ⟨Av, cv, rfl, hsl⟩ := row_sl hrow; have hby : Below t.heap.size t y := ⟨hF1.os, hF1.tape, hF1.output, hF1.size, fun k hk => hF1.block k hk (by simp)⟩; have cry := (World.cell?_of_block (a := ⟨rb, 2, none⟩) (hby.block rb hrbl)).trans crb; have Hpm := Lib.hid hpm; have Hso := Lib.hid hso; have Hsl := Lib.hid hsl; have Hby := Lib.hid hby; clear hpm hso hsl hby hF1 hrow)
                          | (go_at_call 28; refine (rising_any y log9 Al9 cl9 (sl_of_own (Href9.out.below Hby.out).lrow) (by omega)).mono ?_; rintro e z ⟨v2, o, rfl, hris, hrow2, hbz⟩; obtain ⟨Ao, co, rfl, hslo⟩ := row_sl hrow2; have hbtz : Below t.heap.size t z := Bl.trans Hby.out hbz; have crz := (World.cell?_of_block (a := ⟨rb, 2, none⟩) (hbtz.block rb hrbl)).trans crb; have Hris := Lib.hid hris; have Hslz := Lib.hid (Hsl.out.keep (Cells.of_below hbz)); have Hslo := Lib.hid hslo; have Hbz := Lib.hid hbtz; clear hris hrow2 hbz hslo hbtz)
                          | (go_at_call 27; refine (texts_at (ss.map strB) o Av Ao ss.length o.length cv co z (by simp) rfl (sl_of_enc Hslz.out) Hslo.out (texts_same HP.out.kin Hpm.out Hso.out Hris.out)).mono ?_; rintro e s1 ⟨rfl, n9, rfl⟩))
                      have hbs1 : Below t.heap.size t (z.drewN n9) := Fr.below_drewN Hbz.out _
                      generalize z.drewN n9 = s1 at *
                      have HP1 := Lib.hid (HP.out.later hbs1)
                      have cos1 := (World.cell?_of_block (a := ⟨ob, 1, none⟩) (hbs1.block ob ct)).trans cot
                      have crs1 := (World.cell?_of_block (a := ⟨rb, 2, none⟩) (hbs1.block rb hrbl)).trans crb
                      have ct1 := Nat.lt_of_lt_of_le ct hbs1.size
                      have hrb1 := Nat.lt_of_lt_of_le hrbl hbs1.size
                      clear Hbz Hslo Hslz Hris crz Hby Hsl Hso Hpm cry Href9 HP crb hbs1 cot ct hrbl
                      have hnc := HP1.out.kin.cnt q.u
                      have htot := HP1.out.kin.tidy.sum
                      have Hnc := Lib.hid hnc
                      have Htot := Lib.hid htot
                      clear hnc htot
                      obtain ⟨vp8, vf8, vl8, href8⟩ := HP1.out.ref
                      have hvl8 : vl8 = .slice Al9 log9.length cl9 := by
                        have h1 := (blk_cells href8.blk).1 2
                        rw [crs1] at h1
                        simpa using h1.symm
                      subst hvl8
                      have Href8 := Lib.hid href8
                      clear href8
                      go_wp2_with fail
                      go_region_held3 (fun w' => w'.cell? ⟨ob, 1, none⟩ = some (.string q.u) ∧ w'.cell? ⟨rb, 2, none⟩ = some (.slice Al9 log9.length cl9))
                        (first | exact ⟨cos1, crs1⟩ | exact ⟨coy2, cry2⟩ | exact ⟨cou2, cru2⟩)
                        (first
                          | (go_at_call 12; refine (asked_any _ nb pb fb ab S9 q.u (HP1.out.net.below (Below.refl s1.heap.size s1).drew) hum).mono ?_; rintro e y2 ⟨he2, _, hF2⟩; rw [Hnc.out] at he2; subst he2; have hby2 : Below s1.heap.size s1 y2 := ⟨hF2.os, hF2.tape, hF2.output, hF2.size, fun k hk => hF2.block k hk (by simp)⟩; have coy2 := (World.cell?_of_block (a := ⟨ob, 1, none⟩) (hby2.block ob ct1)).trans cos1; have cry2 := (World.cell?_of_block (a := ⟨rb, 2, none⟩) (hby2.block rb hrb1)).trans crs1; have Hby2 := Lib.hid hby2; clear hby2 hF2)
                          | (go_at_call 29; refine (asks_any y2 B rb S9 log9 _ _ _ q.u (Href8.out.below Hby2.out)).mono ?_; rintro e z2 ⟨rfl, n8, rfl⟩)
                          | (go_at_call 14; refine (total_any (y2.drewN n8) nb pb fb ab S9 (HP1.out.net.below (Fr.below_drewN Hby2.out n8)) (by rw [Htot.out]; omega)).mono ?_; rintro e u2 ⟨he3, _, hF3⟩; rw [Htot.out] at he3; subst he3; have hbu2 : Below s1.heap.size s1 u2 := (Fr.below_drewN Hby2.out n8).trans (hF3.below (Fr.below_drewN Hby2.out n8).size (by simp)); have cou2 := (World.cell?_of_block (a := ⟨ob, 1, none⟩) (hbu2.block ob ct1)).trans cos1; have cru2 := (World.cell?_of_block (a := ⟨rb, 2, none⟩) (hbu2.block rb hrb1)).trans crs1; have Hbu2 := Lib.hid hbu2; clear hbu2 hF3))
                      go_wp2_with fail
                      go_roundw
                      case rel => exact ⟨i + 1, S9, log9, by omega, by go_num, HP1.out.later Hbu2.out⟩
                      case measure => simp [intOf]; omega
              · by_cases q2 : q.kind = 2
                · have k0 : (q.kind == 0) = false := by simp [q0]
                  have k1 : (q.kind == 1) = false := by simp [q1]
                  have k2 : (q.kind == 2) = true := by simp [q2]
                  clear q0 q1 q2
                  go_wp2_with fail
                  have hob := Hob.out (.cells #[.int .i64 q.kind, .string q.u, .slice Ab0 q.b.length cb0, .string q.f.u, .int .i64 q.f.att, .int .i64 q.f.kind, .int .i64 q.f.n, .slice Ad0 q.f.data.length cd0] 55)
                  have hbx := Hbx.out (.cells #[.int .i64 q.kind, .string q.u, .slice Ab0 q.b.length cb0, .string q.f.u, .int .i64 q.f.att, .int .i64 q.f.kind, .int .i64 q.f.n, .slice Ad0 q.f.data.length cd0] 55)
                  generalize wr.alloc (.cells #[.int .i64 q.kind, .string q.u, .slice Ab0 q.b.length cb0, .string q.f.u, .int .i64 q.f.att, .int .i64 q.f.kind, .int .i64 q.f.n, .slice Ad0 q.f.data.length cd0] 55) = x at *
                  have Hsx := Lib.hid (Hst.out.later hbx)
                  clear hbx Hbx Hob Hst g0 g1 g2 g3 g4 g5 g6 g7
                  generalize wr.heap.size = ob at *
                  have cox := (blk_cells hob).1
                  have colt := (blk_cells hob).2.2
                  obtain ⟨vp, vf, vl, href⟩ := Hsx.out.ref
                  have Href := Lib.hid href
                  have Hob := Lib.hid hob
                  have hfus : q.f.u.size ≤ 1048576 := by have := Hin.out.fusz; omega
                  have hfum : q.f.u.size ≤ maxLen := by unfold maxLen; omega
                  have hfdl : q.f.data.length ≤ 1048576 := by have := Hin.out.fdsz; omega
                  have hflen : S.faults.length ≤ 1000000 := by have := Hsx.out.fl; omega
                  clear hob href
                  cases hs : addFault S q.f with
                  | error cd =>
                    have HcN : Hid (AddWhy S q.f.u q.f.att q.f.kind q.f.n cd ∧ cd ≠ 0) := Lib.hid (add_why hs)
                    have Hs := Lib.hid hs
                    clear hs
                    go_region_held3 (fun w' => ∀ i, w'.cell? ⟨ob, i, none⟩ = (#[.int .i64 q.kind, .string q.u, .slice Ab0 q.b.length cb0, .string q.f.u, .int .i64 q.f.att, .int .i64 q.f.kind, .int .i64 q.f.n, .slice Ad0 q.f.data.length cd0] : Array Value)[i]?)
                      (first | exact cox | exact coy | exact coz1 | exact coz)
                      (first
                        | (go_at_call 24; refine (add_no x.drew nb pb fb ab S q.f.u q.f.att q.f.kind q.f.n Ad0 q.f.data.length cd0 cd (Hsx.out.net.below (Below.refl x.heap.size x).drew) hfum Hin.out.fatt HcN.out.1).mono ?_; rintro e y ⟨rfl, hN, hF⟩; have hF : Fr [fb] x y := (by have hF : Fr [fb] x.drew y := hF.more (by simp); exact ⟨hF.os, hF.tape, hF.output, hF.size, hF.block⟩); have hoy := (hF.block ob colt (by have := (Hsx.out.net.not_cells Hob.out).2.1; simpa using this)).trans Hob.out; have coy := (blk_cells hoy).1; have hBy : Below w.heap.size w y := Hsx.out.below.trans (hF.below Hsx.out.below.size (by simp; exact Hlow.out fb (by simp))); have HRy := Lib.hid (Href.out.net_fr Hsx.out.net hF (by simp)); have HN := Lib.hid hN; have HBy := Lib.hid hBy; have Hoy := Lib.hid hoy; clear hN hF hoy hBy)
                        | (go_at_call 9; refine (num_any _ _).mono ?_; rintro e w' ⟨rfl, rfl⟩)
                        | (go_at_call 26; refine (fault_any y q.f.u q.f.att q.f.kind q.f.n Ad0 q.f.data.length cd0).mono ?_; unfold fV; rintro e z1 ⟨rfl, hbz1⟩; have hoz1 := (hbz1.block ob (lt_of_heap Hoy.out)).trans Hoy.out; have coz1 := (blk_cells hoz1).1; have Hbz1 := Lib.hid hbz1; have Hoz1 := Lib.hid hoz1; clear hbz1 hoz1)
                        | (go_at_call 25; refine (radd_any z1 B rb S log vp vf vl q.f Ad0 cd0 (HRy.out.below Hbz1.out) (Hds0.out.keep (Cells.of_below (Bl.trans HBy.out Hbz1.out))) hfdl hfus Hin.out.fatt Hin.out.fkd Hin.out.fn hflen).mono ?_; rintro e z ⟨hT, hpost⟩; rcases hpost with ⟨cd2, h1, _, rfl, hz⟩ | ⟨S3, vf3, h1, rfl, hz⟩; rotate_left; (exact absurd (Hs.out.symm.trans h1) (by simp)); obtain rfl : cd = cd2 := (by have := Hs.out.symm.trans h1; injection this); have hoz := (hT.block ob (lt_of_heap Hoz1.out) (.inr (by rintro ⟨cs, t, h1, h2⟩; rw [Hoz1.out] at h1; simp only [Option.some.injEq, Obj.cells.injEq] at h1; obtain ⟨_, rfl, _⟩ := h1; revert h2; unfold RefTy; decide))).trans Hoz1.out; have coz := (blk_cells hoz).1; have HT := Lib.hid hT; have Hz := Lib.hid hz; have Hoz := Lib.hid hoz; clear hT hz hoz h1))
                    all_goals
                      have hdone := add_done Hsx.out Hsx.out.kin (by have := Hsx.out.pl; omega) (by have := Hsx.out.fl; omega) (HN.out.below Hbz1.out) (Bl.trans HBy.out Hbz1.out) HT.out Hz.out hB (by have h1 := lt_of_heap (HRy.out.below Hbz1.out).blk; have h2 := HRy.out.hb; omega)
                      obtain ⟨S9, hS9⟩ : ∃ S9, S9 = S := ⟨_, rfl⟩
                      obtain ⟨log9, hlog9⟩ : ∃ log9, log9 = log := ⟨_, rfl⟩
                      rw [← hS9, ← hlog9] at hdone
                      have HP := Lib.hid hdone
                      have cot : z.cell? ⟨ob, 1, none⟩ = some (.string q.u) := (blk_cells Hoz.out).1 1
                      have ct := (blk_cells Hoz.out).2.2
                      clear hdone hS9 hlog9 Hoz Hz HT coz Hoz1 Hbz1 coz1 Hoy HBy HN HRy coy Hs Href Hob Hsx cox
                      generalize z = t at *
                      go_wp2_with fail
                      obtain ⟨vp9, vf9, vl9, href9⟩ := HP.out.ref
                      have hbl9 := blk_cells href9.blk
                      have crb : t.cell? ⟨rb, 2, none⟩ = some vl9 := hbl9.1 2
                      obtain ⟨Al9, cl9, hvl9, _⟩ := own_form href9.lrow
                      subst hvl9
                      have hrbl := hbl9.2.2
                      have hlog9 : log9.length ≤ 201 := by have := HP.out.ll; omega
                      have hasl : S9.asked.length ≤ 1048576 := by have := HP.out.kin.tidy.len; omega
                      have Href9 := Lib.hid href9
                      clear href9 hbl9
                      go_region_held3 (fun w' => w'.cell? ⟨rb, 2, none⟩ = some (.slice Al9 log9.length cl9))
                        (first | exact crb | exact cry | exact crz)
                        (first
                          | (go_at_call 13; refine (urls_any _ nb pb fb ab S9 (HP.out.net.below (Below.refl t.heap.size t).drew) hasl).mono ?_; rintro e y ⟨v1, ss, rfl, hpm, hso, hrow, _, hF1⟩; obtain ⟨Av, cv, rfl, hsl⟩ := row_sl hrow; have hby : Below t.heap.size t y := ⟨hF1.os, hF1.tape, hF1.output, hF1.size, fun k hk => hF1.block k hk (by simp)⟩; have cry := (World.cell?_of_block (a := ⟨rb, 2, none⟩) (hby.block rb hrbl)).trans crb; have Hpm := Lib.hid hpm; have Hso := Lib.hid hso; have Hsl := Lib.hid hsl; have Hby := Lib.hid hby; clear hpm hso hsl hby hF1 hrow)
                          | (go_at_call 28; refine (rising_any y log9 Al9 cl9 (sl_of_own (Href9.out.below Hby.out).lrow) (by omega)).mono ?_; rintro e z ⟨v2, o, rfl, hris, hrow2, hbz⟩; obtain ⟨Ao, co, rfl, hslo⟩ := row_sl hrow2; have hbtz : Below t.heap.size t z := Bl.trans Hby.out hbz; have crz := (World.cell?_of_block (a := ⟨rb, 2, none⟩) (hbtz.block rb hrbl)).trans crb; have Hris := Lib.hid hris; have Hslz := Lib.hid (Hsl.out.keep (Cells.of_below hbz)); have Hslo := Lib.hid hslo; have Hbz := Lib.hid hbtz; clear hris hrow2 hbz hslo hbtz)
                          | (go_at_call 27; refine (texts_at (ss.map strB) o Av Ao ss.length o.length cv co z (by simp) rfl (sl_of_enc Hslz.out) Hslo.out (texts_same HP.out.kin Hpm.out Hso.out Hris.out)).mono ?_; rintro e s1 ⟨rfl, n9, rfl⟩))
                      have hbs1 : Below t.heap.size t (z.drewN n9) := Fr.below_drewN Hbz.out _
                      generalize z.drewN n9 = s1 at *
                      have HP1 := Lib.hid (HP.out.later hbs1)
                      have cos1 := (World.cell?_of_block (a := ⟨ob, 1, none⟩) (hbs1.block ob ct)).trans cot
                      have crs1 := (World.cell?_of_block (a := ⟨rb, 2, none⟩) (hbs1.block rb hrbl)).trans crb
                      have ct1 := Nat.lt_of_lt_of_le ct hbs1.size
                      have hrb1 := Nat.lt_of_lt_of_le hrbl hbs1.size
                      clear Hbz Hslo Hslz Hris crz Hby Hsl Hso Hpm cry Href9 HP crb hbs1 cot ct hrbl
                      have hnc := HP1.out.kin.cnt q.u
                      have htot := HP1.out.kin.tidy.sum
                      have Hnc := Lib.hid hnc
                      have Htot := Lib.hid htot
                      clear hnc htot
                      obtain ⟨vp8, vf8, vl8, href8⟩ := HP1.out.ref
                      have hvl8 : vl8 = .slice Al9 log9.length cl9 := by
                        have h1 := (blk_cells href8.blk).1 2
                        rw [crs1] at h1
                        simpa using h1.symm
                      subst hvl8
                      have Href8 := Lib.hid href8
                      clear href8
                      go_wp2_with fail
                      go_region_held3 (fun w' => w'.cell? ⟨ob, 1, none⟩ = some (.string q.u) ∧ w'.cell? ⟨rb, 2, none⟩ = some (.slice Al9 log9.length cl9))
                        (first | exact ⟨cos1, crs1⟩ | exact ⟨coy2, cry2⟩ | exact ⟨cou2, cru2⟩)
                        (first
                          | (go_at_call 12; refine (asked_any _ nb pb fb ab S9 q.u (HP1.out.net.below (Below.refl s1.heap.size s1).drew) hum).mono ?_; rintro e y2 ⟨he2, _, hF2⟩; rw [Hnc.out] at he2; subst he2; have hby2 : Below s1.heap.size s1 y2 := ⟨hF2.os, hF2.tape, hF2.output, hF2.size, fun k hk => hF2.block k hk (by simp)⟩; have coy2 := (World.cell?_of_block (a := ⟨ob, 1, none⟩) (hby2.block ob ct1)).trans cos1; have cry2 := (World.cell?_of_block (a := ⟨rb, 2, none⟩) (hby2.block rb hrb1)).trans crs1; have Hby2 := Lib.hid hby2; clear hby2 hF2)
                          | (go_at_call 29; refine (asks_any y2 B rb S9 log9 _ _ _ q.u (Href8.out.below Hby2.out)).mono ?_; rintro e z2 ⟨rfl, n8, rfl⟩)
                          | (go_at_call 14; refine (total_any (y2.drewN n8) nb pb fb ab S9 (HP1.out.net.below (Fr.below_drewN Hby2.out n8)) (by rw [Htot.out]; omega)).mono ?_; rintro e u2 ⟨he3, _, hF3⟩; rw [Htot.out] at he3; subst he3; have hbu2 : Below s1.heap.size s1 u2 := (Fr.below_drewN Hby2.out n8).trans (hF3.below (Fr.below_drewN Hby2.out n8).size (by simp)); have cou2 := (World.cell?_of_block (a := ⟨ob, 1, none⟩) (hbu2.block ob ct1)).trans cos1; have cru2 := (World.cell?_of_block (a := ⟨rb, 2, none⟩) (hbu2.block rb hrb1)).trans crs1; have Hbu2 := Lib.hid hbu2; clear hbu2 hF3))
                      go_wp2_with fail
                      go_roundw
                      case rel => exact ⟨i + 1, S9, log9, by omega, by go_num, HP1.out.later Hbu2.out⟩
                      case measure => simp [intOf]; omega
                  | ok S2 =>
                    obtain ⟨hS2, r1, r2, r3, r4, r5, r6⟩ := add_ok hs
                    subst hS2
                    have Hr1 := Lib.hid r1
                    have Hr6 := Lib.hid r6
                    clear r1 r6
                    have Hs := Lib.hid hs
                    clear hs
                    go_region_held3 (fun w' => ∀ i, w'.cell? ⟨ob, i, none⟩ = (#[.int .i64 q.kind, .string q.u, .slice Ab0 q.b.length cb0, .string q.f.u, .int .i64 q.f.att, .int .i64 q.f.kind, .int .i64 q.f.n, .slice Ad0 q.f.data.length cd0] : Array Value)[i]?)
                      (first | exact cox | exact coy | exact coz1 | exact coz)
                      (first
                        | (go_at_call 24; refine (add_yes x.drew nb pb fb ab S q.f.u q.f.att q.f.kind q.f.n Ad0 q.f.data cd0 (Hsx.out.net.below (Below.refl x.heap.size x).drew) hfum Hin.out.fatt Hr1.out r2 r3 r4 r5 Hin.out.fn.2 Hr6.out (Hds0.out.keep (Cells.of_below Hsx.out.below.drew)) (by omega)).mono ?_; rintro e y ⟨rfl, hN, hF⟩; have hF : Fr [fb] x y := (by have hF : Fr [fb] x.drew y := hF; exact ⟨hF.os, hF.tape, hF.output, hF.size, hF.block⟩); have hoy := (hF.block ob colt (by have := (Hsx.out.net.not_cells Hob.out).2.1; simpa using this)).trans Hob.out; have coy := (blk_cells hoy).1; have hBy : Below w.heap.size w y := Hsx.out.below.trans (hF.below Hsx.out.below.size (by simp; exact Hlow.out fb (by simp))); have HRy := Lib.hid (Href.out.net_fr Hsx.out.net hF (by simp)); have HN := Lib.hid hN; have HBy := Lib.hid hBy; have Hoy := Lib.hid hoy; clear hN hF hoy hBy)
                        | (go_at_call 9; refine (num_any _ _).mono ?_; rintro e w' ⟨rfl, rfl⟩)
                        | (go_at_call 26; refine (fault_any y q.f.u q.f.att q.f.kind q.f.n Ad0 q.f.data.length cd0).mono ?_; unfold fV; rintro e z1 ⟨rfl, hbz1⟩; have hoz1 := (hbz1.block ob (lt_of_heap Hoy.out)).trans Hoy.out; have coz1 := (blk_cells hoz1).1; have Hbz1 := Lib.hid hbz1; have Hoz1 := Lib.hid hoz1; clear hbz1 hoz1)
                        | (go_at_call 25; refine (radd_any z1 B rb S log vp vf vl q.f Ad0 cd0 (HRy.out.below Hbz1.out) (Hds0.out.keep (Cells.of_below (Bl.trans HBy.out Hbz1.out))) hfdl hfus Hin.out.fatt Hin.out.fkd Hin.out.fn hflen).mono ?_; rintro e z ⟨hT, hpost⟩; rcases hpost with ⟨cd2, h1, _, rfl, hz⟩ | ⟨S3, vf3, h1, rfl, hz⟩; (exact absurd (Hs.out.symm.trans h1) (by simp)); obtain rfl : S.add q.f = S3 := (by have := Hs.out.symm.trans h1; injection this); have hoz := (hT.block ob (lt_of_heap Hoz1.out) (.inr (by rintro ⟨cs, t, h1, h2⟩; rw [Hoz1.out] at h1; simp only [Option.some.injEq, Obj.cells.injEq] at h1; obtain ⟨_, rfl, _⟩ := h1; revert h2; unfold RefTy; decide))).trans Hoz1.out; have coz := (blk_cells hoz).1; have HT := Lib.hid hT; have Hz := Lib.hid hz; have Hoz := Lib.hid hoz; clear hT hz hoz h1))
                    all_goals
                      have hdone := add_done Hsx.out (Hsx.out.kin.add q.f) (by have := Hsx.out.pl; simp only [NetSt.add]; omega) (by have := Hsx.out.fl; have := put_len S.faults (q.f.u, q.f.att) q.f; simp only [NetSt.add]; omega) (HN.out.below Hbz1.out) (Bl.trans HBy.out Hbz1.out) HT.out Hz.out hB (by have h1 := lt_of_heap (HRy.out.below Hbz1.out).blk; have h2 := HRy.out.hb; omega)
                      obtain ⟨S9, hS9⟩ : ∃ S9, S9 = (S.add q.f) := ⟨_, rfl⟩
                      obtain ⟨log9, hlog9⟩ : ∃ log9, log9 = log := ⟨_, rfl⟩
                      rw [← hS9, ← hlog9] at hdone
                      have HP := Lib.hid hdone
                      have cot : z.cell? ⟨ob, 1, none⟩ = some (.string q.u) := (blk_cells Hoz.out).1 1
                      have ct := (blk_cells Hoz.out).2.2
                      clear hdone hS9 hlog9 Hoz Hz HT coz Hoz1 Hbz1 coz1 Hoy HBy HN HRy coy Hs Href Hob Hsx cox
                      generalize z = t at *
                      go_wp2_with fail
                      obtain ⟨vp9, vf9, vl9, href9⟩ := HP.out.ref
                      have hbl9 := blk_cells href9.blk
                      have crb : t.cell? ⟨rb, 2, none⟩ = some vl9 := hbl9.1 2
                      obtain ⟨Al9, cl9, hvl9, _⟩ := own_form href9.lrow
                      subst hvl9
                      have hrbl := hbl9.2.2
                      have hlog9 : log9.length ≤ 201 := by have := HP.out.ll; omega
                      have hasl : S9.asked.length ≤ 1048576 := by have := HP.out.kin.tidy.len; omega
                      have Href9 := Lib.hid href9
                      clear href9 hbl9
                      go_region_held3 (fun w' => w'.cell? ⟨rb, 2, none⟩ = some (.slice Al9 log9.length cl9))
                        (first | exact crb | exact cry | exact crz)
                        (first
                          | (go_at_call 13; refine (urls_any _ nb pb fb ab S9 (HP.out.net.below (Below.refl t.heap.size t).drew) hasl).mono ?_; rintro e y ⟨v1, ss, rfl, hpm, hso, hrow, _, hF1⟩; obtain ⟨Av, cv, rfl, hsl⟩ := row_sl hrow; have hby : Below t.heap.size t y := ⟨hF1.os, hF1.tape, hF1.output, hF1.size, fun k hk => hF1.block k hk (by simp)⟩; have cry := (World.cell?_of_block (a := ⟨rb, 2, none⟩) (hby.block rb hrbl)).trans crb; have Hpm := Lib.hid hpm; have Hso := Lib.hid hso; have Hsl := Lib.hid hsl; have Hby := Lib.hid hby; clear hpm hso hsl hby hF1 hrow)
                          | (go_at_call 28; refine (rising_any y log9 Al9 cl9 (sl_of_own (Href9.out.below Hby.out).lrow) (by omega)).mono ?_; rintro e z ⟨v2, o, rfl, hris, hrow2, hbz⟩; obtain ⟨Ao, co, rfl, hslo⟩ := row_sl hrow2; have hbtz : Below t.heap.size t z := Bl.trans Hby.out hbz; have crz := (World.cell?_of_block (a := ⟨rb, 2, none⟩) (hbtz.block rb hrbl)).trans crb; have Hris := Lib.hid hris; have Hslz := Lib.hid (Hsl.out.keep (Cells.of_below hbz)); have Hslo := Lib.hid hslo; have Hbz := Lib.hid hbtz; clear hris hrow2 hbz hslo hbtz)
                          | (go_at_call 27; refine (texts_at (ss.map strB) o Av Ao ss.length o.length cv co z (by simp) rfl (sl_of_enc Hslz.out) Hslo.out (texts_same HP.out.kin Hpm.out Hso.out Hris.out)).mono ?_; rintro e s1 ⟨rfl, n9, rfl⟩))
                      have hbs1 : Below t.heap.size t (z.drewN n9) := Fr.below_drewN Hbz.out _
                      generalize z.drewN n9 = s1 at *
                      have HP1 := Lib.hid (HP.out.later hbs1)
                      have cos1 := (World.cell?_of_block (a := ⟨ob, 1, none⟩) (hbs1.block ob ct)).trans cot
                      have crs1 := (World.cell?_of_block (a := ⟨rb, 2, none⟩) (hbs1.block rb hrbl)).trans crb
                      have ct1 := Nat.lt_of_lt_of_le ct hbs1.size
                      have hrb1 := Nat.lt_of_lt_of_le hrbl hbs1.size
                      clear Hbz Hslo Hslz Hris crz Hby Hsl Hso Hpm cry Href9 HP crb hbs1 cot ct hrbl
                      have hnc := HP1.out.kin.cnt q.u
                      have htot := HP1.out.kin.tidy.sum
                      have Hnc := Lib.hid hnc
                      have Htot := Lib.hid htot
                      clear hnc htot
                      obtain ⟨vp8, vf8, vl8, href8⟩ := HP1.out.ref
                      have hvl8 : vl8 = .slice Al9 log9.length cl9 := by
                        have h1 := (blk_cells href8.blk).1 2
                        rw [crs1] at h1
                        simpa using h1.symm
                      subst hvl8
                      have Href8 := Lib.hid href8
                      clear href8
                      go_wp2_with fail
                      go_region_held3 (fun w' => w'.cell? ⟨ob, 1, none⟩ = some (.string q.u) ∧ w'.cell? ⟨rb, 2, none⟩ = some (.slice Al9 log9.length cl9))
                        (first | exact ⟨cos1, crs1⟩ | exact ⟨coy2, cry2⟩ | exact ⟨cou2, cru2⟩)
                        (first
                          | (go_at_call 12; refine (asked_any _ nb pb fb ab S9 q.u (HP1.out.net.below (Below.refl s1.heap.size s1).drew) hum).mono ?_; rintro e y2 ⟨he2, _, hF2⟩; rw [Hnc.out] at he2; subst he2; have hby2 : Below s1.heap.size s1 y2 := ⟨hF2.os, hF2.tape, hF2.output, hF2.size, fun k hk => hF2.block k hk (by simp)⟩; have coy2 := (World.cell?_of_block (a := ⟨ob, 1, none⟩) (hby2.block ob ct1)).trans cos1; have cry2 := (World.cell?_of_block (a := ⟨rb, 2, none⟩) (hby2.block rb hrb1)).trans crs1; have Hby2 := Lib.hid hby2; clear hby2 hF2)
                          | (go_at_call 29; refine (asks_any y2 B rb S9 log9 _ _ _ q.u (Href8.out.below Hby2.out)).mono ?_; rintro e z2 ⟨rfl, n8, rfl⟩)
                          | (go_at_call 14; refine (total_any (y2.drewN n8) nb pb fb ab S9 (HP1.out.net.below (Fr.below_drewN Hby2.out n8)) (by rw [Htot.out]; omega)).mono ?_; rintro e u2 ⟨he3, _, hF3⟩; rw [Htot.out] at he3; subst he3; have hbu2 : Below s1.heap.size s1 u2 := (Fr.below_drewN Hby2.out n8).trans (hF3.below (Fr.below_drewN Hby2.out n8).size (by simp)); have cou2 := (World.cell?_of_block (a := ⟨ob, 1, none⟩) (hbu2.block ob ct1)).trans cos1; have cru2 := (World.cell?_of_block (a := ⟨rb, 2, none⟩) (hbu2.block rb hrb1)).trans crs1; have Hbu2 := Lib.hid hbu2; clear hbu2 hF3))
                      go_wp2_with fail
                      go_roundw
                      case rel => exact ⟨i + 1, S9, log9, by omega, by go_num, HP1.out.later Hbu2.out⟩
                      case measure => simp [intOf]; omega
                · have k0 : (q.kind == 0) = false := by simp [q0]
                  have k1 : (q.kind == 1) = false := by simp [q1]
                  have k2 : (q.kind == 2) = false := by simp [q2]
                  clear q0 q1 q2
                  go_wp2_with fail
                  have hob := Hob.out (.cells #[.int .i64 q.kind, .string q.u, .slice Ab0 q.b.length cb0, .string q.f.u, .int .i64 q.f.att, .int .i64 q.f.kind, .int .i64 q.f.n, .slice Ad0 q.f.data.length cd0] 55)
                  have hbx := Hbx.out (.cells #[.int .i64 q.kind, .string q.u, .slice Ab0 q.b.length cb0, .string q.f.u, .int .i64 q.f.att, .int .i64 q.f.kind, .int .i64 q.f.n, .slice Ad0 q.f.data.length cd0] 55)
                  generalize wr.alloc (.cells #[.int .i64 q.kind, .string q.u, .slice Ab0 q.b.length cb0, .string q.f.u, .int .i64 q.f.att, .int .i64 q.f.kind, .int .i64 q.f.n, .slice Ad0 q.f.data.length cd0] 55) = t at *
                  obtain ⟨S9, log9, HP⟩ : ∃ S9 log9, Hid (PSt w nb pb fb ab B rb S9 log9 (i + 1) t) := ⟨S, log, Lib.hid ((Hst.out.later hbx).more (by omega))⟩
                  clear hbx Hbx Hob Hst g0 g1 g2 g3 g4 g5 g6 g7
                  generalize wr.heap.size = ob at *
                  have cot : t.cell? ⟨ob, 1, none⟩ = some (.string q.u) := (blk_cells hob).1 1
                  have ct := (blk_cells hob).2.2
                  clear hob
                  go_wp2_with fail
                  obtain ⟨vp9, vf9, vl9, href9⟩ := HP.out.ref
                  have hbl9 := blk_cells href9.blk
                  have crb : t.cell? ⟨rb, 2, none⟩ = some vl9 := hbl9.1 2
                  obtain ⟨Al9, cl9, hvl9, _⟩ := own_form href9.lrow
                  subst hvl9
                  have hrbl := hbl9.2.2
                  have hlog9 : log9.length ≤ 201 := by have := HP.out.ll; omega
                  have hasl : S9.asked.length ≤ 1048576 := by have := HP.out.kin.tidy.len; omega
                  have Href9 := Lib.hid href9
                  clear href9 hbl9
                  go_region_held3 (fun w' => w'.cell? ⟨rb, 2, none⟩ = some (.slice Al9 log9.length cl9))
                    (first | exact crb | exact cry | exact crz)
                    (first
                      | (go_at_call 13; refine (urls_any _ nb pb fb ab S9 (HP.out.net.below (Below.refl t.heap.size t).drew) hasl).mono ?_; rintro e y ⟨v1, ss, rfl, hpm, hso, hrow, _, hF1⟩; obtain ⟨Av, cv, rfl, hsl⟩ := row_sl hrow; have hby : Below t.heap.size t y := ⟨hF1.os, hF1.tape, hF1.output, hF1.size, fun k hk => hF1.block k hk (by simp)⟩; have cry := (World.cell?_of_block (a := ⟨rb, 2, none⟩) (hby.block rb hrbl)).trans crb; have Hpm := Lib.hid hpm; have Hso := Lib.hid hso; have Hsl := Lib.hid hsl; have Hby := Lib.hid hby; clear hpm hso hsl hby hF1 hrow)
                      | (go_at_call 28; refine (rising_any y log9 Al9 cl9 (sl_of_own (Href9.out.below Hby.out).lrow) (by omega)).mono ?_; rintro e z ⟨v2, o, rfl, hris, hrow2, hbz⟩; obtain ⟨Ao, co, rfl, hslo⟩ := row_sl hrow2; have hbtz : Below t.heap.size t z := Bl.trans Hby.out hbz; have crz := (World.cell?_of_block (a := ⟨rb, 2, none⟩) (hbtz.block rb hrbl)).trans crb; have Hris := Lib.hid hris; have Hslz := Lib.hid (Hsl.out.keep (Cells.of_below hbz)); have Hslo := Lib.hid hslo; have Hbz := Lib.hid hbtz; clear hris hrow2 hbz hslo hbtz)
                      | (go_at_call 27; refine (texts_at (ss.map strB) o Av Ao ss.length o.length cv co z (by simp) rfl (sl_of_enc Hslz.out) Hslo.out (texts_same HP.out.kin Hpm.out Hso.out Hris.out)).mono ?_; rintro e s1 ⟨rfl, n9, rfl⟩))
                  have hbs1 : Below t.heap.size t (z.drewN n9) := Fr.below_drewN Hbz.out _
                  generalize z.drewN n9 = s1 at *
                  have HP1 := Lib.hid (HP.out.later hbs1)
                  have cos1 := (World.cell?_of_block (a := ⟨ob, 1, none⟩) (hbs1.block ob ct)).trans cot
                  have crs1 := (World.cell?_of_block (a := ⟨rb, 2, none⟩) (hbs1.block rb hrbl)).trans crb
                  have ct1 := Nat.lt_of_lt_of_le ct hbs1.size
                  have hrb1 := Nat.lt_of_lt_of_le hrbl hbs1.size
                  clear Hbz Hslo Hslz Hris crz Hby Hsl Hso Hpm cry Href9 HP crb hbs1 cot ct hrbl
                  have hnc := HP1.out.kin.cnt q.u
                  have htot := HP1.out.kin.tidy.sum
                  have Hnc := Lib.hid hnc
                  have Htot := Lib.hid htot
                  clear hnc htot
                  obtain ⟨vp8, vf8, vl8, href8⟩ := HP1.out.ref
                  have hvl8 : vl8 = .slice Al9 log9.length cl9 := by
                    have h1 := (blk_cells href8.blk).1 2
                    rw [crs1] at h1
                    simpa using h1.symm
                  subst hvl8
                  have Href8 := Lib.hid href8
                  clear href8
                  go_wp2_with fail
                  go_region_held3 (fun w' => w'.cell? ⟨ob, 1, none⟩ = some (.string q.u) ∧ w'.cell? ⟨rb, 2, none⟩ = some (.slice Al9 log9.length cl9))
                    (first | exact ⟨cos1, crs1⟩ | exact ⟨coy2, cry2⟩ | exact ⟨cou2, cru2⟩)
                    (first
                      | (go_at_call 12; refine (asked_any _ nb pb fb ab S9 q.u (HP1.out.net.below (Below.refl s1.heap.size s1).drew) hum).mono ?_; rintro e y2 ⟨he2, _, hF2⟩; rw [Hnc.out] at he2; subst he2; have hby2 : Below s1.heap.size s1 y2 := ⟨hF2.os, hF2.tape, hF2.output, hF2.size, fun k hk => hF2.block k hk (by simp)⟩; have coy2 := (World.cell?_of_block (a := ⟨ob, 1, none⟩) (hby2.block ob ct1)).trans cos1; have cry2 := (World.cell?_of_block (a := ⟨rb, 2, none⟩) (hby2.block rb hrb1)).trans crs1; have Hby2 := Lib.hid hby2; clear hby2 hF2)
                      | (go_at_call 29; refine (asks_any y2 B rb S9 log9 _ _ _ q.u (Href8.out.below Hby2.out)).mono ?_; rintro e z2 ⟨rfl, n8, rfl⟩)
                      | (go_at_call 14; refine (total_any (y2.drewN n8) nb pb fb ab S9 (HP1.out.net.below (Fr.below_drewN Hby2.out n8)) (by rw [Htot.out]; omega)).mono ?_; rintro e u2 ⟨he3, _, hF3⟩; rw [Htot.out] at he3; subst he3; have hbu2 : Below s1.heap.size s1 u2 := (Fr.below_drewN Hby2.out n8).trans (hF3.below (Fr.below_drewN Hby2.out n8).size (by simp)); have cou2 := (World.cell?_of_block (a := ⟨ob, 1, none⟩) (hbu2.block ob ct1)).trans cos1; have cru2 := (World.cell?_of_block (a := ⟨rb, 2, none⟩) (hbu2.block rb hrb1)).trans crs1; have Hbu2 := Lib.hid hbu2; clear hbu2 hF3))
                  go_wp2_with fail
                  go_roundw
                  case rel => exact ⟨i + 1, S9, log9, by omega, by go_num, HP1.out.later Hbu2.out⟩
                  case measure => simp [intOf]; omega
          · go_wp2_with fail
            go_ret
            exact ⟨rfl, Hst.out.below⟩
end Go.Proofs.Ytpblaclhfcomeaa
