/-
  Crash: the walk.
-/
import Derived.Test.YtaolddgnannojaaGreatDoorG17
import Derived.Test.YtaolddgnannojaaGreatDoorFsDurable
import Derived.Test.YtaolddgnannojaaGreatDoorIter
namespace Go.Proofs.YtaolddgnannojaaGreatDoor
open Go.RowKit Go.Maps

attribute [local go_sem] lt1 lt2 lt3 lt4 lt5 lt6

theorem slice_hmU (A : Option Addr) (n c l : Nat) (h : l ≤ c) (w : World) : (Instr.slice 29 (.slice A n c) none (some (.int .i64 (l : Int))) (some (.int .i64 (l : Int)))).run Tryz.prog w = .ok (.slice A l l) w := by
  have e : Tryz.prog.elem 29 = 5 := by kernel_rfl
  have ht : Tryz.prog.underlying 29 = some (.slice (Tryz.prog.elem 29)) := by rw [e]; exact Tryz.underlying29
  obtain ⟨i0, hi0, hz0, hz1, hz2⟩ := info_parts infoU8
  rw [run_slice_hm (w := w) (ht := ht) (kh := .i64) (km := .i64) (h0 := by omega) (h2 := by omega) (h3 := by omega), e]
  simp [sizeOf, typeInfo, hi0, hz1, sliced]
  intro _
  cases A with
  | none => rfl
  | some a => simp [Addr.add]
theorem ranges_mut {w : World} {k : TypeId} {R : Value → Option (Dm × List MemPlace)} {b r n : Nat} {D : Dm} {left : Lit → Bool} {cnt : Nat} (h : w.ranges Tryz.prog k R b r n D left cnt) : Mut w r := by
  obtain ⟨es, clock, since, seen, c0, _, _, _, _, hr, _⟩ := h
  exact .inl ⟨_, hr, by simp⟩
theorem Gr.fresh {M M' : FsMem} {a b c : World} {g : Nat} (h : Gr M a M' b) (hg : a.heap.size ≤ g) (k : Fr [g] b c) : Gr M a M' c := ⟨h.fr.fresh hg (k.more fun k hk => by rw [List.mem_singleton.1 hk]; simp), h.new, h.fb⟩
def CutRel (w0 : World) (M : FsMem) (S : FsSt) (m r : Nat) (wr : World) : Prop :=
  ∃ left cnt fl, wr.ranges Tryz.prog 3 RPtr M.fm r S.files.length (fD S.files M.fl) left cnt ∧ FsAt wr { M with fl := fl } { S with files := mixF left m S.files } ∧ fl.map (·.1) = M.fl.map (·.1) ∧ Gr M w0 { M with fl := fl } wr ∧ r ∉ ({ M with fl := fl } : FsMem).own ∧ w0.heap.size ≤ r
theorem DataAt.cut {w : World} {A : Option Addr} {c : Nat} {d : List UInt8} (h : DataAt w (.slice A d.length c) d) {q : Nat} (hq : q ≤ d.length) : DataAt w (.slice A q q) (d.take q) := by
  have hl : (d.take q).length = q := by rw [List.length_take]; omega
  rcases h with ⟨hv, hd⟩ | ⟨g, cap, cur, hv, hg, hnc, hcm, hcs, htk⟩
  · simp only [Value.slice.injEq] at hv
    obtain ⟨rfl, _, _⟩ := hv
    subst hd
    have : q = 0 := by simpa using hq
    subst this
    exact .inl ⟨rfl, rfl⟩
  · simp only [Value.slice.injEq] at hv
    obtain ⟨rfl, _, rfl⟩ := hv
    refine .inr ⟨g, q, cur, by rw [hl], hg, by omega, by omega, by omega, ?_⟩
    rw [hl]
    have : (cur.toList.take d.length).take q = (u8s d).take q := by rw [htk]
    rw [List.take_take, Nat.min_eq_left hq] at this
    rw [this]
    simp [u8s]
theorem data_cap {w : World} {A : Option Addr} {c : Nat} {d : List UInt8} (h : DataAt w (.slice A d.length c) d) : d.length ≤ c := by
  rcases h with ⟨hv, hd⟩ | ⟨g, cap, cur, hv, _, hnc, _⟩
  · simp only [Value.slice.injEq] at hv
    omega
  · simp only [Value.slice.injEq] at hv
    omega
def SumRel (w0 : World) (M : FsMem) (S : FsSt) (r : Nat) (wr : World) : Prop :=
  ∃ left cnt acc, wr.ranges Tryz.prog 9 (plainElem Tryz.prog 3) M.nm r (Maps.size S.names) S.names left cnt ∧ FsAt wr M { S with size := (acc : Nat) } ∧ acc + sumLeft S.files left S.names = sumNo S.files S.names ∧ Gr M w0 M wr ∧ r ∉ M.own ∧ w0.heap.size ≤ r
set_option maxHeartbeats 8000000 in
set_option maxRecDepth 10000 in
theorem crash_any (w : World) (M : FsMem) (S : FsSt) (K : Nat) (h : FsAt w M S) (hg : FsGood K S) (hK : K ≤ 1048576) (n m : Int) (hn : n ≤ 9223372036854775807) (hm : m ≤ 9223372036854775807) :
    Calls Tryz.prog 10 #[.pointer (some ⟨M.fb, 0, none⟩), .int .i64 n, .int .i64 m] w (ChsPost w M (S.crash n m)) := by
  obtain ⟨P, hP⟩ : ∃ P, P = ChsPost w M (S.crash n m) := ⟨_, rfl⟩
  rw [← hP]
  have HP := Lib.hid hP
  have H := Lib.hid h
  have HG := Lib.hid hg
  obtain ⟨Ap, cp, hpv⟩ : ∃ A c, M.pv = .slice A S.pend.length c := by
    obtain ⟨cs, _, p2⟩ := h.pend
    exact own_formT p2
  obtain ⟨hpc, hpm⟩ : S.pend.length ≤ cp ∧ cp ≤ maxLen := by
    obtain ⟨cs, _, p2⟩ := h.pend
    obtain ⟨A2, c2, e2, h2, _⟩ := row_slk p2
    rw [hpv] at e2
    simp only [Value.slice.injEq, true_and] at e2
    obtain ⟨rfl, rfl⟩ := e2
    exact ⟨h2.le, h2.big⟩
  have c6 : w.cell? ⟨M.fb, 6, none⟩ = some M.pv := (h.cell 6 _ rfl).1
  have f6 : w.frozen? ⟨M.fb, 6, none⟩ = false := (blk_cells h.blk).2.1 6
  rw [hpv] at c6
  have hq : min (max n 0) (S.pend.length : Int) = (crashN S n : Nat) := by unfold crashN; omega
  have hkl := crashN_le S n
  have hcut := slice_hiC Ap S.pend.length cp (crashN S n) (by omega)
  obtain ⟨h1, g1⟩ := h.fronted hpv hkl rfl
  have hpend := hg.inv.pends
  have H1 := Lib.hid h1
  have G1 := Lib.hid g1
  have HPV := Lib.hid hpv
  obtain ⟨k, hk⟩ : ∃ k, k = crashN S n := ⟨_, rfl⟩
  rw [← hk] at hq hkl hcut H1 G1
  have Hk := Lib.hid hk
  clear hP h hg h1 g1 hpv hk
  go_enter Tryz.func10, Tryz.ntmps10
  go_wp2_with fail
  generalize hW1 : w.setCell ⟨M.fb, 6, none⟩ (.slice Ap k cp) = W1 at *
  obtain ⟨M1, hM1⟩ : ∃ X, X = { M with pv := Value.slice Ap k cp } := ⟨_, rfl⟩
  obtain ⟨S1, hS1⟩ : ∃ X, X = { S with pend := S.pend.take k } := ⟨_, rfl⟩
  rw [← hM1, ← hS1] at H1
  rw [← hM1] at G1
  have hfb : M.fb = M1.fb := by rw [hM1]
  have HPv1 : Hid (M1.pv = .slice Ap k cp) := Lib.hid (by rw [hM1])
  have hl1 : S1.pend.length = k := by rw [hS1]; show (S.pend.take k).length = k; rw [List.length_take]; omega
  have HS1 := Lib.hid hS1
  have hr1 : ∀ j, Maps.size (durOf S1.dur (S1.pend.take j)) ≤ 1099511627776 := fun j => by
    have := HG.out.durRoom hK S.pend.length (min j k) (by omega)
    rw [hS1]
    show Maps.size (durOf S.dur ((S.pend.take k).take j)) ≤ _
    rw [List.take_take]
    exact this
  have Hr1 := Lib.hid hr1
  have Hl1 := Lib.hid hl1
  rw [hfb]
  clear hM1 hS1 hfb hr1 hl1 c6 f6 hW1 hcut hq
  go_loopw [36] (fun iv wr => SetRel W1 M1 S1 k iv wr) (fun iv _ => k - (intOf iv).toNat)
  case atStart => exact ⟨0, by omega, rfl, by simpa [durOf] using H1.out, Gr.refl _ _⟩
  case round =>
    obtain ⟨j, hj, rfl, hat, hgr⟩ := hrel
    by_cases hjk : j < k
    · have hjI : (j : Int) < k := by omega
      have hjp : j < S1.pend.length := by rw [Hl1.out]; exact hjk
      obtain ⟨p, hp⟩ : ∃ p, S1.pend[j]? = some p := ⟨_, List.getElem?_eq_getElem hjp⟩
      obtain ⟨g, cp', v, hpe, e1, e2, e3, hchg⟩ := hat.pend_at (k := j) (p := p) hp
      obtain ⟨F, cs', hve, eg, hc⟩ := chg_any wr M1.dm (durOf S1.dur (S1.pend.take j)) p.chg v hchg hat.dur (by have := Hr1.out j; unfold maxLen; omega)
      subst hve
      simp only at hpe
      rw [HPv1.out, Hl1.out] at hpe
      simp only [Value.slice.injEq, true_and] at hpe
      obtain ⟨hA, hcc⟩ := hpe
      subst hA
      clear hcc
      have c4 : wr.cell? ⟨M1.fb, 4, none⟩ = some (.map (some M1.dm)) := (hat.cell 4 _ rfl).1
      have hfb := hat.lt M1.fb (by simp [FsMem.own])
      have hgb : g < wr.heap.size := World.block_lt_of_cell? wr _ e1
      have hbx : Below wr.heap.size wr (wr.alloc (.cells #[.string p.dir, .int .i64 (p.file : Nat), .func (.func F) #[] cs'] 63)) := (Below.refl _ _).alloc (Nat.le_refl _) _
      have hnew := heap_alloc_new wr (.cells #[.string p.dir, .int .i64 (p.file : Nat), .func (.func F) #[] cs'] 63)
      have hat1 := hat.below hbx
      have hgr1 := hgr.trans (Gr.of_below (M := M1) hbx)
      have hchg1 := hchg.kept (S := []) ⟨Fr.of_below hbx [], fun k hk => by simp at hk⟩
      have d2 : (wr.alloc (.cells #[.string p.dir, .int .i64 (p.file : Nat), .func (.func F) #[] cs'] 63)).drew.cell? ⟨wr.heap.size, 2, none⟩ = some (.func (.func F) #[] cs') := (blk_cells hnew).1 2
      have d4 : (wr.alloc (.cells #[.string p.dir, .int .i64 (p.file : Nat), .func (.func F) #[] cs'] 63)).drew.cell? ⟨M1.fb, 4, none⟩ = some (.map (some M1.dm)) := (hat1.cell 4 _ rfl).1
      have Hat := Lib.hid hat1
      have Hgr := Lib.hid hgr1
      have Hchg := Lib.hid hchg1
      clear hat hgr hchg hc hbx hat1 hgr1 hchg1 hnew
      go_wp2_with fail
      generalize wr.alloc (.cells #[.string p.dir, .int .i64 (p.file : Nat), .func (.func F) #[] cs'] 63) = w1 at *
      clear c4 e1 e2 e3 hgb hfb
      obtain ⟨F', cs2, hve, _, hc⟩ := chg_any w1.drew M1.dm (durOf S1.dur (S1.pend.take j)) p.chg _ Hchg.out Hat.out.dur (by have := Hr1.out j; unfold maxLen; omega)
      cases hve
      with_reducible refine g_mix [(0, none), (1, none), (2, none), (3, none), (4, none), (5, none), (6, some true)] (fun w' => w'.cell? ⟨wr.heap.size, 2, none⟩ = some (.func (.func F) #[] cs') ∧ w'.cell? ⟨M1.fb, 4, none⟩ = some (.map (some M1.dm))) (by kernel_rfl) (by kernel_rfl) ?_
      intro OPS
      simp only [mixOf, nthO, consO]
      iterate 6 ((with_reducible refine m_val (v := ?_) ?_ ?_ ?_); rotate_left; (rintro _ ⟨h1, h2⟩; go_simp; first | done | rfl | (constructor <;> rfl)); exact ⟨d2, d4⟩)
      with_reducible refine m_one ?_
      refine l_call (f := F) (args := #[.map (some M1.dm)] ++ cs') ?_ ?_
      · go_simp
      refine hc.mono ?_
      rintro e w2 ⟨rfl, hD, hg⟩
      refine ⟨_, rfl, ?_⟩
      with_reducible refine m_last ?_
      with_reducible refine m_end ?_
      simp only [Act.put, List.setIfInBounds_toArray, List.set_cons_zero, List.set_cons_succ]
      obtain ⟨h3, g3⟩ := (show FsAt w1.drew M1 _ from Hat.out.drewN 1).dured (Fr.of_grown hg) hD ((H1.out.natD.durOf _).chg p.chg)
      have htk : S1.pend.take (j + 1) = S1.pend.take j ++ [p] := by
        rw [List.take_add_one, hp]; rfl
      have Hfin : Hid (SetRel W1 M1 S1 k (.int .i64 ((j : Int) + 1)) w2) := Lib.hid ⟨j + 1, by omega, rfl, by rw [htk, durOf_snoc]; exact h3, Hgr.out.trans ((Gr.drewN M1 w1 1).trans g3)⟩
      clear h3 g3 hD hg hc d2 d4 Hat Hgr Hchg
      go_wp2_with fail
      go_roundw
      case rel => exact Hfin.out
      case measure => simp [intOf]; omega
    · have hjI : ¬ (j : Int) < k := by omega
      obtain rfl : j = k := by omega
      have htk : S1.pend.take j = S1.pend := List.take_of_length_le (by rw [Hl1.out]; exact Nat.le_refl _)
      rw [htk] at hat
      have f6 : wr.frozen? ⟨M1.fb, 6, none⟩ = false := (blk_cells hat.blk).2.1 6
      have c6 : wr.cell? ⟨M1.fb, 6, none⟩ = some (.slice Ap j cp) := by rw [← HPv1.out]; exact (hat.cell 6 _ rfl).1
      obtain ⟨h2, g2⟩ := hat.emptied rfl
      have hwn := hgr.trans g2
      have HD2 := Lib.hid (show OwnN (wr.setCell ⟨M1.fb, 6, none⟩ (.slice none 0 0)) M1.dm (durOf S1.dur S1.pend) from h2.dur)
      have H2 := Lib.hid h2
      have G2 := Lib.hid hwn
      have c4 : (wr.setCell ⟨M1.fb, 6, none⟩ (.slice none 0 0)).cell? ⟨M1.fb, 4, none⟩ = some (.map (some M1.dm)) := (h2.cell 4 _ rfl).1
      have b2 := Lib.hid h2.blk
      clear hat hgr h2 g2 hwn htk
      go_wp2_with fail
      generalize wr.setCell ⟨M1.fb, 6, none⟩ (.slice none 0 0) = w2 at *
      obtain ⟨M2, hM2⟩ : ∃ X, X = { M1 with pv := Value.slice none 0 0 } := ⟨_, rfl⟩
      obtain ⟨D, hD⟩ : ∃ D, D = durOf S1.dur S1.pend := ⟨_, rfl⟩
      obtain ⟨S2, hS2⟩ : ∃ X, X = { S1 with dur := D, pend := [] } := ⟨_, rfl⟩
      have hS2' : { S1 with dur := durOf S1.dur S1.pend, pend := [] } = S2 := by rw [hS2, hD]
      have H2' : Hid (FsAt w2 M2 S2) := by rw [← hS2', hM2]; exact H2
      have G2' : Hid (Gr M1 W1 M2 w2) := by rw [hM2]; exact G2
      have hfb2 : M1.fb = M2.fb := by rw [hM2]
      have hdm2 : M1.dm = M2.dm := by rw [hM2]
      rw [← hD, hdm2] at HD2
      have hDc : D = S.crashD n := by rw [hD, HS1.out, Hk.out]; rfl
      have hS3 : { S2 with names := D } = S.crash1 n := by
        rw [hS2, HS1.out]
        show ({ S with dur := D, pend := [], names := D } : FsSt) = _
        rw [hDc]
        rfl
      have HS3 := Lib.hid hS3
      have hdur2 : S2.dur = D := by rw [hS2]
      have Hdur2 := Lib.hid hdur2
      rw [hfb2, hdm2] at c4
      rw [hfb2, hdm2]
      clear hM2 hS2 hS2' H2 G2 hfb2 hdm2 hD hDc hS3 hdur2 c6 f6 b2
      have hcl := AnyW.maps_Clone_owns Tryz.clone19 9 (plainElem Tryz.prog 3) M2.dm (Maps.size D) D w2 HD2.out
      change Calls Tryz.prog 19 _ _ _ at hcl
      refine hcl.mono ?_
      rintro e w3 ⟨rfl, hnew3, _, hb3⟩
      have h3 := H2'.out.below hb3
      have f3 : w3.frozen? ⟨M2.fb, 3, none⟩ = false := (blk_cells h3.blk).2.1 3
      have c3 : w3.cell? ⟨M2.fb, 3, none⟩ = some (.map (some M2.nm)) := (h3.cell 3 _ rfl).1
      have hfb3 := h3.lt M2.fb (by simp [FsMem.own])
      have hblk4 := heap_setCell_at h3.blk 3 (.map (some w2.heap.size))
      have hfr4 : Fr [M2.fb] w3 (w3.setCell ⟨M2.fb, 3, none⟩ (.map (some w2.heap.size))) := Fr.setCell _ _ _ _ (by simp)
      have hne : w2.heap.size ∉ [M2.fb] := fun hh => by
        have h9 := H2'.out.lt M2.fb (by simp [FsMem.own])
        rw [← List.mem_singleton.1 hh] at h9
        omega
      obtain ⟨h4, g4⟩ := H2'.out.renamed (S' := { S2 with names := D }) (b := w2.heap.size) ((Fr.of_below hb3 _).trans hfr4) hblk4 (Nat.le_refl _) (map_kept hnew3 hfr4 hne) (by rw [← Hdur2.out]; exact H2'.out.natD) rfl rfl rfl
      rw [HS3.out] at h4
      have hi4 := (good_crash1 HG.out n)
      obtain ⟨M4, hM4⟩ : ∃ X, X = { M2 with nm := w2.heap.size } := ⟨_, rfl⟩
      rw [← hM4] at h4 g4
      have Hfb4 : Hid (M2.fb = M4.fb) := Lib.hid (by rw [hM4])
      have H4 := Lib.hid h4
      have G4 := Lib.hid (G2'.out.trans g4)
      have HI4 := Lib.hid hi4
      clear hcl hnew3 hb3 h3 hblk4 hfr4 hne h4 g4 hi4 hM4 H2' G2' HD2 Hdur2
      go_wp2_with fail
      generalize w3.setCell ⟨M2.fb, 3, none⟩ (.map (some w2.heap.size)) = w4 at *
      rw [Hfb4.out]
      clear c3 f3 hfb3 c4
      refine (settle_any w4 M4 (S.crash1 n) K H4.out HI4.out.inv hK 0 (Nat.zero_le _) (HI4.out.durRoom hK 0)).mono ?_
      rintro e w5 ⟨rfl, M5, h5, g5⟩
      have hi5 := good_settle HI4.out 0 (Nat.zero_le _) (Nat.le_refl K) HI4.out.inv.dur.size
      obtain ⟨S5, hS5⟩ : ∃ X, X = (S.crash1 n).settle 0 := ⟨_, rfl⟩
      rw [← hS5] at h5 hi5
      have HS5 := Lib.hid hS5
      have H5 := Lib.hid h5
      have G5 := Lib.hid (G4.out.trans g5)
      have HI5 := Lib.hid hi5
      have hfb5 : M4.fb = M5.fb := g5.fb.symm
      rw [hfb5]
      have c1 : w5.cell? ⟨M5.fb, 1, none⟩ = some (.map (some M5.fm)) := (h5.cell 1 _ rfl).1
      have HF5 := Lib.hid h5.files
      have hlf := h5.lt M5.fm (by simp [FsMem.own])
      clear hS5 h5 g5 hi5 hfb5 H4 G4 HI4
      go_wp2_with (first
        | (at_range; refine wpList_range_own _ rfl _ 45 rfl 3 55 intK Tryz.underlying45 RPtr M5.fm S5.files.length (fD S5.files M5.fl) rfl HF5.out ?_; intro w6 hrg6 hg6 hs6)
        | go_in)
      go_frame
      have hsr : w5.heap.size ∉ M5.own := fun hh => by have := H5.out.lt _ hh; omega
      have hb6 : Below w5.heap.size w5 w6 := (Below.refl _ _).grown hg6 (Nat.le_refl _) (by simp)
      have Hel := Lib.hid H5.out.each.length
      obtain ⟨mm, hmm⟩ : ∃ mm, mm = (max m 0).toNat := ⟨_, rfl⟩
      have hmI : max m 0 = (mm : Nat) := by omega
      have Hrel0 : Hid (CutRel w5 M5 S5 mm w5.heap.size w6) := Lib.hid ⟨_, _, M5.fl, hrg6, by rw [mixF_start mm S5.files M5.fl Hel.out]; exact H5.out.below hb6, rfl, Gr.of_below hb6, hsr, Nat.le_refl _⟩
      have Hmm := Lib.hid hmm
      obtain ⟨r, hr⟩ : ∃ r, r = w5.heap.size := ⟨_, rfl⟩
      rw [← hr] at Hrel0 ⊢
      clear hrg6 hg6 hs6 hsr hb6 hmm HF5 c1 hr
      go_loopw [10] (fun _ wr => CutRel w5 M5 S5 mm r wr) (fun _ wr => wr.rangeLeft M5.fm r)
      case atStart => exact Hrel0.out
      case round =>
        clear Hrel0
        obtain ⟨left, cnt, fl, hrg, hat, hfl, hgr, hro, hrs⟩ := hrel
        have Hrs := Lib.hid hrs
        clear hrs
        have HL := Lib.hid hrg.left_eq
        have Hat := Lib.hid hat
        have Hfl := Lib.hid hfl
        have Hgr := Lib.hid hgr
        have Hro := Lib.hid hro
        clear hat hfl hgr hro
        go_wp2_with (first
          | (at_next; refine wpList_next_ranges _ rfl _ rfl 3 intK RPtr (Value.int .i64) Value.pointer intKInv ptrInv M5.fm r S5.files.length _ _ _ rfl hrg ?_ ?_)
          | go_in)
        · intro hc0 hl0
          have h7 := Hat.out
          rw [mixF_end mm S5.files hl0] at h7
          obtain ⟨M7, hM7⟩ : ∃ X, X = { M5 with fl := fl } := ⟨_, rfl⟩
          obtain ⟨S7, hS7⟩ : ∃ X, X = S5.cutAll mm := ⟨_, rfl⟩
          change FsAt wr _ (S5.cutAll mm) at h7
          rw [← hM7, ← hS7] at h7
          have g7 := Hgr.out
          rw [← hM7] at g7
          have hI7 := good_cutAll HI5.out mm
          rw [← hS7] at hI7
          have hfb7 : Hid (M5.fb = M7.fb) := Lib.hid (by rw [hM7])
          have HS7 := Lib.hid hS7
          have f5 : wr.frozen? ⟨M7.fb, 5, none⟩ = false := (blk_cells h7.blk).2.1 5
          have c5 : wr.cell? ⟨M7.fb, 5, none⟩ = some (.int .i64 S7.size) := (h7.cell 5 _ rfl).1
          have c3 : wr.cell? ⟨M7.fb, 3, none⟩ = some (.map (some M7.nm)) := (h7.cell 3 _ rfl).1
          obtain ⟨h8, f8⟩ := h7.put (S' := { S7 with size := ((0 : Nat) : Int) }) 5 (.int .i64 0) rfl rfl rfl rfl rfl
          have g8 := g7.trans (Gr.own f8)
          have hfbl := h7.lt M7.fb (by simp [FsMem.own])
          have H8 := Lib.hid h8
          have G8 := Lib.hid (G5.out.trans g8)
          have HI7 := Lib.hid hI7
          have HN8 := Lib.hid h8.names
          rw [hfb7.out]
          clear hrg h7 g7 f8 g8 hI7 hM7 hS7 h8 Hat Hfl Hgr Hro
          go_wp2_with (first
            | (at_range; refine wpList_range_own _ rfl _ 46 rfl 9 3 strK Tryz.underlying46 (plainElem Tryz.prog 3) M7.nm (Maps.size S7.names) S7.names rfl HN8.out ?_; intro w9 hrg9 hg9 hs9)
            | go_in)
          have hb9 : Below (wr.setCell ⟨M7.fb, 5, none⟩ (.int .i64 0)).heap.size (wr.setCell ⟨M7.fb, 5, none⟩ (.int .i64 0)) w9 := (Below.refl _ _).grown hg9 (Nat.le_refl _) (by simp)
          have Hrel9 : Hid (SumRel (wr.setCell ⟨M7.fb, 5, none⟩ (.int .i64 0)) M7 S7 (wr.setCell ⟨M7.fb, 5, none⟩ (.int .i64 0)).heap.size w9) := Lib.hid ⟨_, _, 0, hrg9, H8.out.below hb9, by rw [sumLeft_start S7.files HI7.out.dn.canon]; omega, Gr.of_below hb9, fun hh => (by have := H8.out.lt _ hh; omega), Nat.le_refl _⟩
          clear hg9 hs9 hb9 hrg9
          clear HN8 f5 c5 c3 hfbl
          have hsr : (wr.setCell ⟨M7.fb, 5, none⟩ (.int .i64 0)).heap.size = wr.heap.size := by simp
          rw [hsr] at Hrel9
          clear hsr
          generalize wr.setCell ⟨M7.fb, 5, none⟩ (.int .i64 0) = w8 at *
          generalize wr.heap.size = r9 at *
          go_loopw [13] (fun _ wr => SumRel w8 M7 S7 r9 wr) (fun _ wr => wr.rangeLeft M7.nm r9)
          case atStart => exact Hrel9.out
          case round =>
            clear Hrel9
            obtain ⟨left, cnt, acc, hrg, hat, hsum, hgr, hro, hrs⟩ := hrel
            have Hrs := Lib.hid hrs
            clear hrs
            have HL := Lib.hid hrg.left_eq
            have Hat := Lib.hid hat
            have Hsum := Lib.hid hsum
            have Hgr := Lib.hid hgr
            have Hro := Lib.hid hro
            clear hat hsum hgr hro
            go_wp2_with (first
              | (at_next; refine wpList_next_ranges _ rfl _ rfl 9 strK (plainElem Tryz.prog 3) Value.string (Value.int .i64) strInv intInv M7.nm r9 (Maps.size S7.names) _ _ _ rfl hrg ?_ ?_)
              | go_in)
            · intro hc0 hl0
              have hs9 := Hsum.out
              rw [sumLeft_end S7.files hl0, Nat.add_zero] at hs9
              have h9 := Hat.out
              rw [hs9] at h9
              have f8 : wr.frozen? ⟨M7.fb, 8, none⟩ = false := (blk_cells h9.blk).2.1 8
              have c8 : wr.cell? ⟨M7.fb, 8, none⟩ = some (.int .i64 (S7.armed : Nat)) := (h9.cell 8 _ rfl).1
              have f9 : wr.frozen? ⟨M7.fb, 9, none⟩ = false := (blk_cells h9.blk).2.1 9
              have c9 : wr.cell? ⟨M7.fb, 9, none⟩ = some (.bool S7.down) := (h9.cell 9 _ rfl).1
              obtain ⟨h10, g10⟩ := h9.put (S' := { S7.summed with armed := 0 }) 8 (.int .i64 0) rfl rfl rfl rfl rfl
              obtain ⟨h11, g11⟩ := h10.put (S' := { S7.summed with armed := 0, down := false }) 9 (.bool false) rfl rfl rfl rfl rfl
              have hcr : ({ S7.summed with armed := 0, down := false } : FsSt) = S.crash n m := by
                rw [HS7.out, HS5.out, Hmm.out]
                rfl
              rw [hcr] at h11
              have Hfin : Hid (P (.returned (.tuple #[])) ((wr.setCell ⟨M7.fb, 8, none⟩ (.int .i64 0)).setCell ⟨M7.fb, 9, none⟩ (.bool false))) := Lib.hid (by
                rw [HP.out]
                exact ⟨rfl, M7, h11, (Gr.trans (M' := M7) (Gr.trans (M' := M7) (G1.out.trans (G8.out.trans Hgr.out)) (Gr.own g10)) (Gr.own g11))⟩)
              clear hrg h9 h10 g10 h11 g11 hcr hs9
              go_wp2_with fail
              go_end0
              exact Hfin.out
            · intro x c kl y yp w10 cnt10 hkey hlk hv hat10 hrg10 hlt hg10 hs10 hen
              obtain ⟨c', ec, hy, hwf⟩ := plainElem_int_inv Tryz.underlying3 hv
              cases ec
              obtain ⟨q, hq⟩ := HI7.out.dn.nat.2 kl
              have hcq : c = (q : Int) := by
                have h6 := (hat10 (nval 0)).symm.trans hq
                have hy1 : y = _ := congrArg Prod.fst hy
                rw [hy1] at h6
                simpa [nval] using h6
              subst hcq
              have hy1 : y = nval q := congrArg Prod.fst hy
              subst hy1
              have hq9 : q ≤ 9223372036854775807 := wf_le hwf
              have hfr10 : Frm [r9] wr w10 := ⟨Fr.of_grown hg10, fun k hk _ => by rw [List.mem_singleton.1 hk]; exact ranges_mut hrg⟩
              have h10 := Hat.out.apart hfr10 fun k hk hh => Hro.out (by rw [← List.mem_singleton.1 hh]; exact hk)
              obtain ⟨s, hs, _⟩ := HI7.out.dn.str kl (has_true_of_atKey hat10)
              have hsq : nget S7.names s = q := by
                unfold nget kget
                rw [← hs, hat10]
                rfl
              have hnz : nget S7.names s ≠ 0 := by
                have := HI7.out.dn.pos kl (has_true_of_atKey hat10)
                rw [hs] at this
                exact this
              obtain ⟨i, hi⟩ := HI7.out.inv.names.has s hnz
              rw [hsq] at hi
              have hil := FsSt.idx_lt hi
              have hdat : (S7.fileD i).2.d = dataNo S7.files q := by
                have := S7.idx_num q
                rw [hi] at this
                unfold dataNo
                rw [← this]
                rfl
              have hd10 : FsAt w10.drew M7 { S7 with size := (acc : Nat) } := h10.drewN 1
              have k2 := hd10.file_run q hq9
              have hi' : ({ S7 with size := (acc : Nat) } : FsSt).idx q = some i := hi
              rw [hi'] at k2
              obtain ⟨gf, hgf⟩ : ∃ gf, gf = (M7.fl.getD i (0, undef)).1 := ⟨_, rfl⟩
              have hpt : M7.ptr (some i) = .pointer (some ⟨gf, 0, none⟩) := by rw [hgf]; rfl
              rw [hpt] at k2
              have hfile := hd10.fileAt (i := i) hil
              obtain ⟨Af, cf, hfv⟩ := data_form hfile.2
              have hf0 := hfile.1
              rw [hfv, ← hgf] at hf0
              change w10.drew.heap[gf]? = some (.cells #[.slice Af (S7.fileD i).2.d.length cf, _] _ _) at hf0
              have m0 : w10.drew.cell? ⟨gf, 0, none⟩ = some (.slice Af (S7.fileD i).2.d.length cf) := (blk_cells hf0).1 0
              have hst := sumLeft_step S7.files HI7.out.dn.canon hlk hat10
              have htot := sumNo_le HI7.out.inv HI7.out.dn HI7.out.inv.names.size
              have hKK : K * K ≤ 1048576 * 1048576 := Nat.mul_le_mul hK hK
              have hsm := Hsum.out
              rw [← hdat] at hst
              obtain ⟨L, hL⟩ : ∃ L, L = (S7.fileD i).2.d.length := ⟨_, rfl⟩
              rw [← hL] at m0 hst
              have r1 : IntKind.i64.wrap ((acc : Int) + (L : Int)) = ((acc + L : Nat) : Int) := by rw [IntKind.wrap_i64]; omega
              have c1 : w10.drew.cell? ⟨M7.fb, 1, none⟩ = some (.map (some M7.fm)) := (hd10.cell 1 _ rfl).1
              have c5 : w10.drew.cell? ⟨M7.fb, 5, none⟩ = some (.int .i64 ((acc : Nat) : Int)) := (hd10.cell 5 _ rfl).1
              have f5 : w10.drew.frozen? ⟨M7.fb, 5, none⟩ = false := (blk_cells hd10.blk).2.1 5
              obtain ⟨h11, f11⟩ := hd10.put (S' := { S7 with size := ((acc + L : Nat) : Int) }) 5 (.int .i64 ((acc + L : Nat) : Int)) rfl rfl rfl rfl rfl
              have hgs := grown_setCell w10.drew ⟨M7.fb, 5, none⟩ (.int .i64 ((acc + L : Nat) : Int))
              have hown7 : M7.fb ∈ M7.own := by simp [FsMem.own]
              have hrg11 := hrg10.kept ((show w10.grownBy w10.drew (some M7.fb) from ⟨rfl, rfl, rfl, Nat.le_refl _, fun _ _ _ => rfl⟩).andThen hgs (fun j hj => .inr hj)) (fun e => by
                have h5 := h10.nodup
                unfold FsMem.own at h5
                simp only [Option.some.injEq] at e
                rw [e] at h5
                simp at h5) (fun e => Hro.out (by simp only [Option.some.injEq] at e; rw [e]; exact hown7))
              have Hfin : Hid (SumRel w8 M7 S7 r9 (w10.drew.setCell ⟨M7.fb, 5, none⟩ (.int .i64 ((acc + L : Nat) : Int)))) := Lib.hid ⟨_, _, acc + L, hrg11, h11, by rw [← hsm, hst]; omega, (Hgr.out.fresh Hrs.out (Fr.of_grown hg10)).trans ((Gr.drewN M7 w10 1).trans (Gr.own f11)), Hro.out, Hrs.out⟩
              have Hms : Hid ((w10.drew.setCell ⟨M7.fb, 5, none⟩ (.int .i64 ((acc + L : Nat) : Int))).rangeLeft M7.nm r9 < wr.rangeLeft M7.nm r9) := Lib.hid (by rw [hrg11.left_eq, HL.out]; exact hlt)
              clear h10 h11 f11 hgs hrg11 hrg10 hrg hfile hfv hf0 hfr10 hg10 hs10 hsm hst hdat hgf hpt hi' hi hnz hsq hs hat10 hlk hkey hy hwf hq hL hil hd10 htot hKK Hat Hsum Hgr Hro HL
              go_wp2_with fail
              with_reducible refine g_mix [(0, none), (1, none), (2, none), (3, none), (4, none), (5, none), (6, none), (7, none), (8, none), (9, none), (10, none), (11, none), (12, none), (13, none), (14, none), (15, none), (16, none), (17, some true)] (fun w' => (w'.cell? ⟨gf, 0, none⟩ = some (.slice Af L cf) ∧ w'.cell? ⟨M7.fb, 5, none⟩ = some (.int .i64 ((acc : Nat) : Int))) ∧ w'.cell? ⟨M7.fb, 1, none⟩ = some (.map (some M7.fm)) ∧ (Instr.lookup 45 (.map (some M7.fm)) (.int .i64 (q : Nat)) false).run Tryz.prog w' = .ok (.pointer (some ⟨gf, 0, none⟩)) w') (by kernel_rfl) (by kernel_rfl) ?_
              intro OPS
              simp only [mixOf, nthO, consO]
              iterate 17 ((with_reducible refine m_val (v := ?_) ?_ ?_ ?_); rotate_left; (rintro _ ⟨⟨h1, h2⟩, h3, h4⟩; (try simp only [r1]); go_simp; first | done | rfl | (constructor <;> rfl)); exact ⟨⟨m0, c5⟩, c1, k2⟩)
              with_reducible refine m_one ?_
              with_reducible refine l_skip (w' := w10.drew.setCell ⟨M7.fb, 5, none⟩ (.int .i64 ((acc + L : Nat) : Int))) ?_ ?_
              · go_simp
              with_reducible refine m_last ?_
              with_reducible refine m_end ?_
              simp only [Act.put, List.setIfInBounds_toArray, List.set_cons_zero, List.set_cons_succ]
              clear m0 c1 c5 k2 r1 f5
              go_wp2_with fail
              go_roundw
              case rel => exact Hfin.out
              case measure => exact Hms.out
        · intro x c kl y yp w7 cnt7 hkey hlk hv hat7 hrg7 hlt hg7 hs7 hen
          obtain ⟨i, e, f, he, hf, rfl, hy⟩ := fD_key Hel.out hat7
          subst hy
          have hc := RPtr_nval hv
          simp only [Value.pointer.injEq] at hc
          subst hc
          have hfr7 : Frm [r] wr w7 := ⟨Fr.of_grown hg7, fun k hk _ => by rw [List.mem_singleton.1 hk]; exact ranges_mut hrg⟩
          have h7 := Hat.out.apart hfr7 fun k hk hh => Hro.out (by rw [← List.mem_singleton.1 hh]; exact hk)
          have hm7 := mixF_at (m := mm) he hlk
          obtain ⟨f', hf', hff⟩ : ∃ f', fl[i]? = some f' ∧ f'.1 = f.1 := by
            have h9 := congrArg (fun l => l[i]?) Hfl.out
            simp only [List.getElem?_map, hf, Option.map_some] at h9
            cases hfi : fl[i]? with
            | none => rw [hfi] at h9; cases h9
            | some f' => rw [hfi] at h9; exact ⟨f', rfl, by simpa using h9⟩
          have hfile := All2.at2 h7.each hm7 hf'
          have hsy := HI5.out.inv.sy e (List.mem_of_getElem? he)
          have hstep := mixF_step (left := left) (m := mm) HI5.out.inv.ord he
          rw [← hff] at hen ⊢
          obtain ⟨gf, v'⟩ := f'
          obtain ⟨no, d, sy⟩ := e
          obtain ⟨Av, cv, hv'⟩ := data_form hfile.2
          simp only at hv' hsy
          subst hv'
          have hg0 : w7.heap[gf]? = some (.cells #[.slice Av d.length cv, .int .i64 (sy : Nat)] 58 (0, 0)) := hfile.1
          have hdat := hfile.2
          simp only at hdat
          have hcv := data_cap hdat
          obtain ⟨rest, hrest⟩ : ∃ rest, d.length = sy + rest := ⟨d.length - sy, by omega⟩
          obtain ⟨q, hq⟩ : ∃ q, q = sy + min mm rest := ⟨_, rfl⟩
          have hqd : q ≤ d.length := by omega
          have hcutF : cutF mm ⟨d, sy⟩ = ⟨d.take q, q⟩ := by
            unfold cutF
            simp only
            rw [hrest, show sy + rest - sy = rest by omega, ← hq]
          have hcut := slice_hmU Av d.length cv q (by omega)
          have hd2 := hdat.cut hqd
          have hg2 := heap_setCell_at (w := w7.drew) hg0 0 (.slice Av q q)
          have hg3 := heap_setCell_at hg2 1 (.int .i64 (q : Nat))
          have hfr : Fr [gf] w7 ((w7.drew.setCell ⟨gf, 0, none⟩ (.slice Av q q)).setCell ⟨gf, 1, none⟩ (.int .i64 (q : Nat))) := ((((Fr.refl [gf] w7).drewN 1).trans (Fr.setCell _ _ _ _ (by simp))).trans (Fr.setCell _ _ _ _ (by simp)))
          have hbn : ∀ b, (Value.slice Av q q).ownBlock = some b → b ∉ [gf] := fun b hb hh => by
            obtain ⟨cur, hcu⟩ := data_blk hd2 b hb
            rw [List.mem_singleton.1 hh] at hcu
            rw [hg0] at hcu
            simp at hcu
          obtain ⟨h8, g8⟩ := h7.refiled (c' := ⟨d.take q, q⟩) (v' := .slice Av q q) hm7 hf' (hfr.more fun k hk => by rw [List.mem_singleton.1 hk]; simp) ⟨hg3, data_kept hd2 hfr hbn⟩ (.inl (by cases Av <;> rfl))
          have hgm := FsMem.fl_own (M := { M5 with fl := fl }) (f := (gf, .slice Av d.length cv)) (List.mem_of_getElem? hf')
          have hrlt := hrg7.lt
          have hrg8 := (hrg7.kept ((show w7.grownBy w7.drew (some gf) from ⟨rfl, rfl, rfl, Nat.le_refl _, fun _ _ _ => rfl⟩).andThen (grown_setCell w7.drew ⟨gf, 0, none⟩ (.slice Av q q)) (fun j hj => .inr hj)) (fun e => by
            simp only [Option.some.injEq] at e
            have h5 := h7.nodup
            unfold FsMem.own at h5
            have h6 := hgm.1
            unfold FsMem.own at h6
            have h9 := hfile.1
            simp only at h9
            obtain ⟨es, ck, h10, _⟩ := h7.files
            change w7.heap[M5.fm]? = _ at h10
            rw [e, h9] at h10
            cases h10) (fun e => Hro.out (by simp only [Option.some.injEq] at e; rw [e]; exact hgm.1)))
          have hrg9 := hrg8.kept (grown_setCell (w7.drew.setCell ⟨gf, 0, none⟩ (.slice Av q q)) ⟨gf, 1, none⟩ (.int .i64 (q : Nat))) (fun e => by
            simp only [Option.some.injEq] at e
            have h9 := hfile.1
            simp only at h9
            obtain ⟨es, ck, h10, _⟩ := h7.files
            change w7.heap[M5.fm]? = _ at h10
            rw [e, h9] at h10
            cases h10) (fun e => Hro.out (by simp only [Option.some.injEq] at e; rw [e]; exact hgm.1))
          have Hfin : Hid (CutRel w5 M5 S5 mm r ((w7.drew.setCell ⟨gf, 0, none⟩ (.slice Av q q)).setCell ⟨gf, 1, none⟩ (.int .i64 (q : Nat)))) := Lib.hid ⟨_, _, fl.set i (gf, .slice Av q q), hrg9, by
            rw [hstep, hcutF]
            exact h8, by
            rw [← Hfl.out, List.map_set]
            refine List.ext_getElem? fun k => ?_
            rw [List.getElem?_set]
            split
            · rename_i e
              subst e
              have h9 := (List.getElem?_eq_some_iff.1 hf').1
              rw [if_pos (by simpa using h9), List.getElem?_map, hf']
              rfl
            · rfl, (Hgr.out.fresh Hrs.out (Fr.of_grown hg7)).trans g8, fun hh => by
            rcases g8.new r hh with h9 | h9
            · exact Hro.out h9
            · omega, Hrs.out⟩
          have Hms : Hid (((w7.drew.setCell ⟨gf, 0, none⟩ (.slice Av q q)).setCell ⟨gf, 1, none⟩ (.int .i64 (q : Nat))).rangeLeft M5.fm r < wr.rangeLeft M5.fm r) := Lib.hid (by rw [hrg9.left_eq, HL.out]; exact hlt)
          have hlK := hsy.2
          have r1 : IntKind.i64.wrap ((d.length : Int) - (sy : Int)) = (rest : Int) := by rw [IntKind.wrap_i64]; omega
          have r2 : min (mm : Int) (rest : Int) = ((min mm rest : Nat) : Int) := by omega
          have r3 : IntKind.i64.wrap ((sy : Int) + ((min mm rest : Nat) : Int)) = (q : Int) := by rw [IntKind.wrap_i64]; omega
          have m0 : w7.drew.cell? ⟨gf, 0, none⟩ = some (.slice Av d.length cv) := (blk_cells hg0).1 0
          have m1 : w7.drew.cell? ⟨gf, 1, none⟩ = some (.int .i64 (sy : Nat)) := (blk_cells hg0).1 1
          have f0 : w7.drew.frozen? ⟨gf, 0, none⟩ = false := (blk_cells hg0).2.1 0
          have f1 : w7.drew.frozen? ⟨gf, 1, none⟩ = false := (blk_cells hg0).2.1 1
          clear hrg9 hrg8 hrg7 hrg h8 g8 hgm hrlt h7 hm7 hfr7 hfile hstep he hf hf' hff hat7 hlk hkey hv hg7 hs7 hdat hcv hrest hq hqd hcutF hd2 hg2 hg3 hfr hbn hg0 hsy hlK HL Hat Hfl Hgr Hro
          go_wp2_with fail
          with_reducible refine g_mix [(0, none), (1, none), (2, none), (3, none), (4, none), (5, none), (6, none), (7, none), (8, none), (9, none), (10, none), (11, none), (12, none), (13, none), (14, none), (15, none), (16, none), (17, none), (18, none)] (fun w' => w'.cell? ⟨gf, 0, none⟩ = some (.slice Av d.length cv) ∧ w'.cell? ⟨gf, 1, none⟩ = some (.int .i64 (sy : Nat))) (by kernel_rfl) (by kernel_rfl) ?_
          intro OPS
          simp only [mixOf, nthO, consO]
          iterate 19 ((with_reducible refine m_val (v := ?_) ?_ ?_ ?_); rotate_left; (rintro _ ⟨h1, h2⟩; (try simp only [r1, r2, r3, hmI]); go_simp; first | done | rfl | (constructor <;> rfl)); exact ⟨m0, m1⟩)
          with_reducible refine m_end ?_
          simp only [Act.put, List.setIfInBounds_toArray, List.set_cons_zero, List.set_cons_succ]
          clear r1 r2 r3
          have n1 : w7.cell? ⟨gf, 1, none⟩ = some (.int .i64 (sy : Nat)) := m1
          have k1 : w7.frozen? ⟨gf, 1, none⟩ = false := f1
          have n0 : w7.cell? ⟨gf, 0, none⟩ = some (.slice Av d.length cv) := m0
          have k0 : w7.frozen? ⟨gf, 0, none⟩ = false := f0
          go_wp2_with fail
          go_roundw
          case rel => exact Hfin.out
          case measure => exact Hms.out
end Go.Proofs.YtaolddgnannojaaGreatDoor
