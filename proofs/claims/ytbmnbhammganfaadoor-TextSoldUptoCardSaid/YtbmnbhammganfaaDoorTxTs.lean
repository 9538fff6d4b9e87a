/-
  The law TextSold: what it answers.
-/
import Derived.Test.YtbmnbhammganfaaDoorTxSh
import Derived.Test.YtbmnbhammganfaaDoorTxTw
import Derived.Test.YtbmnbhammganfaaDoorH5
namespace Go.Proofs.YtbmnbhammganfaaDoor
open Go.RowKit Go.Maps

set_option linter.unusedSimpArgs false

attribute [local go_sem] lt1 lt2 lt3 lt4 lt5 lt6

theorem row4 {w : World} {b : Nat} {t : TypeId} {v0 v1 v2 v3 : Value} (h : w.heap[b]? = some (.cells #[v0, v1, v2, v3] t (0, 0))) : w.cell? ⟨b, 0, none⟩ = some v0 ∧ w.cell? ⟨b, 1, none⟩ = some v1 ∧ w.cell? ⟨b, 2, none⟩ = some v2 ∧ w.cell? ⟨b, 3, none⟩ = some v3 := by
  have hc := (blk_cells h).1
  exact ⟨hc 0, hc 1, hc 2, hc 3⟩
theorem sizeTold : (Tryd.prog.info? 62).map (·.size) = some 2 := by kernel_rfl
theorem wrap_half {l : Nat} (h : l ≤ 35000) : ((l : Int) != wrap64 ((wrap64 (2 * (l : Int))).tdiv 2)) = false := by
  have h1 : wrap64 (2 * (l : Int)) = 2 * l := by unfold wrap64; omega
  have h2 : wrap64 (l : Int) = l := by unfold wrap64; omega
  have h3 : (2 * (l : Int)).tdiv 2 = l := by rw [Int.tdiv_eq_ediv_of_nonneg (by omega)]; omega
  rw [h1, h3, h2]
  simp
/-- the words so far -/
def TwRel (x0 : World) (d : SoldD) (ov iv : Value) (wr : World) : Prop := ∃ (j : Nat) (L : List ByteArray), j ≤ d.files.length ∧ iv = .int .i64 (j : Nat) ∧ L.map toL = sellW :: toL d.path :: toL d.ver :: d.man :: flatL (d.files.take j) ∧ L.length = 4 + 2 * j ∧ wr.ownsRow x0.heap.size 9 1 ov L.length (txs L) ∧ Below x0.heap.size x0 wr
def TsRel (l : Nat) (x5 : World) (iv : Value) (wr : World) : Prop := ∃ j n : Nat, j ≤ l ∧ iv = .int .i64 (j : Nat) ∧ wr = x5.drewN n
theorem sold_shape {s : List UInt8} {D : List ByteArray} (h : soldErr s = 0) (hD : D.map toL = wordsOf s) : ∃ q a b c R, D = q :: a :: b :: c :: R ∧ R.length % 2 = 0 := by
  have hw : wordsErr s = 0 := by
    by_cases h0 : wordsErr s = 0
    · exact h0
    · rw [soldErr_err h0] at h; exact absurd h h0
  rw [soldErr_ok hw, ← hD] at h
  unfold soldErrW at h
  split at h
  · exact absurd h (by decide)
  split at h
  · exact absurd h (by decide)
  rename_i h2
  simp only [List.length_map, not_or] at h2
  obtain ⟨h2, h3⟩ := h2
  match D, h2, h3 with
  | [], h2, _ => exact absurd (by simp) h2
  | [_], h2, _ => exact absurd (by simp) h2
  | [_, _], h2, _ => exact absurd (by simp) h2
  | [_, _, _], h2, _ => exact absurd (by simp) h2
  | q :: a :: b :: c :: R, _, h3 => exact ⟨q, a, b, c, R, rfl, by simp only [List.length_cons] at h3; omega⟩
set_option maxRecDepth 100000 in
set_option maxHeartbeats 20000000 in
theorem textSold_box (s : ByteArray) (V : Array Value) (d : SoldD) (tn : Int) (ty : Bool) (w : World) (hw : Lw w) (hV : SoBox w V d) (hd : SoldOk d) (hn : -9223372036854775808 ≤ tn ∧ tn ≤ 9223372036854775807) : Calls Tryd.prog 7 #[.string s, .agg V, .agg #[.int .i64 tn, .bool ty]] w (LawPost w) := by
  have hVV := hV
  obtain ⟨A, c, AF, cF, rfl, hm, hf⟩ := hV
  have Hd := Lib.hid hd
  have HVb : Hid (∀ x, Cells w x → SoBox x (sV d.path d.ver (.slice A d.man.length c) (.slice AF d.files.length cF)).toArray d) := Lib.hid fun x hc => ⟨A, c, AF, cF, rfl, hm.keep hc, hf.keep hc⟩
  have Hm0 := Lib.hid hm
  have Hf0 := Lib.hid hf
  obtain ⟨hn1, hn2⟩ := hn
  obtain ⟨p, v, man, files⟩ := d
  simp only [sV] at HVb Hm0 Hf0 ⊢
  obtain ⟨k1, k2, k3, k4, k5⟩ := hd
  simp only at k1 k2 k3 k4 k5
  have Hk4 := Lib.hid k4
  clear hm hf k4 hVV
  obtain ⟨nm, hnm⟩ : ∃ nm, nm = man.length := ⟨_, rfl⟩
  obtain ⟨nf, hnf⟩ : ∃ nf, nf = files.length := ⟨_, rfl⟩
  rw [← hnm] at HVb k3 ⊢
  rw [← hnf] at HVb k5 ⊢
  have Hnm := Lib.hid hnm
  have Hnf := Lib.hid hnf
  clear hnm hnf
  have Hw := Lib.hid hw
  obtain ⟨x0, hx0⟩ : ∃ x0, x0 = (w.alloc (.cells #[.string p, .string v, .slice A nm c, .slice AF nf cF] 60)).alloc (.cells #[.int .i64 tn, .bool ty] 62) := ⟨_, rfl⟩
  have hra : x0.heap[w.heap.size]? = some (.cells #[.string p, .string v, .slice A nm c, .slice AF nf cF] 60 (0, 0)) := by rw [hx0]; exact (Below.heap_alloc _ _ _ (by simp)).trans (heap_alloc_new _ _)
  have hrt : x0.heap[w.heap.size + 1]? = some (.cells #[.int .i64 tn, .bool ty] 62 (0, 0)) := by rw [hx0]; have := heap_alloc_new (w.alloc (.cells #[.string p, .string v, .slice A nm c, .slice AF nf cF] 60)) (.cells #[.int .i64 tn, .bool ty] 62); rwa [World.size_alloc] at this
  have hB0 : Below w.heap.size w x0 := by rw [hx0]; exact ((Below.refl _ _).alloc (Nat.le_refl _) _).alloc (by simp) _
  have HB0 := Lib.hid hB0
  have Hra := Lib.hid hra
  have Hrt := Lib.hid hrt
  have Hfi := Lib.hid (first_any x0 (hw.below hB0))
  clear hra hrt hB0 hw
  go_enter Tryd.func7, Tryd.ntmps7
  go_wp2_with fail
  rw [← hx0]
  obtain ⟨ra, hra⟩ : ∃ ra, ra = w.heap.size := ⟨_, rfl⟩
  have Hraw := Lib.hid hra
  rw [← hra] at Hra Hrt ⊢
  clear hx0 hra
  refine Hfi.out.mono ?_
  rintro e x1 ⟨rfl, hB⟩
  have HB1 := Lib.hid (HB0.out.trans (hB.mono HB0.out.size))
  have Hra1 := Lib.hid ((hB.block ra (lt_of_heap Hra.out)).trans Hra.out)
  have Hrt1 := Lib.hid ((hB.block (ra + 1) (lt_of_heap Hrt.out)).trans Hrt.out)
  clear hB Hfi HB0 Hra Hrt
  obtain ⟨e0, e1, e2, e3⟩ := row4 Hra1.out
  by_cases c1 : (70000 : Int) < s.size
  · go_wp2_with fail
    go_ret
    exact ⟨rfl, HB1.out⟩
  by_cases c2 : (40 : Int) < nf
  · go_wp2_with fail
    go_ret
    exact ⟨rfl, HB1.out⟩
  have hf1 := Hf0.out.keep (Cells.of_below HB1.out)
  have hfew := fewf_any x1 AF cF files 80000 (by omega) hf1 (fun q hq => by have := (Hk4.out q hq).1; unfold maxLen; omega)
  rw [← Hnf.out] at hfew
  have Hfew := Lib.hid hfew
  clear hf1 hfew
  go_wp2_with fail
  refine Hfew.out.mono ?_
  rintro e x2 ⟨rfl, rfl⟩
  by_cases c3 : ¬ sumFl files ≤ 80000
  · rw [decide_eq_false c3]
    go_wp2_with fail
    go_ret
    exact ⟨rfl, HB1.out⟩
  rw [decide_eq_true (Decidable.not_not.1 c3)]
  by_cases c4 : (20000 : Int) < nm
  · go_wp2_with fail
    go_ret
    exact ⟨rfl, HB1.out⟩
  by_cases c5 : (20000 : Int) < p.size
  · go_wp2_with fail
    go_ret
    exact ⟨rfl, HB1.out⟩
  by_cases c6 : (20000 : Int) < v.size
  · go_wp2_with fail
    go_ret
    exact ⟨rfl, HB1.out⟩
  clear Hfew c3
  go_wp2_with fail
  refine (parseSold_any s (by omega) x1).mono ?_
  rintro e x3 ⟨U, dd, rfl, hU, hB, hz0, hz1⟩
  obtain ⟨A5, c5, AF5, cF5, rfl, hm5, hf5⟩ := hU
  obtain ⟨er, her⟩ : ∃ er, er = soldErr (toL s) := ⟨_, rfl⟩
  rw [← her] at hz0 hz1 ⊢
  have Hz0 := Lib.hid hz0
  have Hz1 := Lib.hid hz1
  have Her := Lib.hid her
  clear her hz0 hz1
  obtain ⟨p5, v5, m5, f5⟩ := dd
  simp only [sV] at hm5 hf5 ⊢
  obtain ⟨n5, hn5⟩ : ∃ n5, n5 = m5.length := ⟨_, rfl⟩
  obtain ⟨l5, hl5⟩ : ∃ l5, l5 = f5.length := ⟨_, rfl⟩
  rw [← hn5, ← hl5]
  have HB3 := Lib.hid (HB1.out.trans (hB.mono HB1.out.size))
  have Hra3 := Lib.hid ((hB.block ra (lt_of_heap Hra1.out)).trans Hra1.out)
  have Hrt3 := Lib.hid ((hB.block (ra + 1) (lt_of_heap Hrt1.out)).trans Hrt1.out)
  have HB4 := Lib.hid (HB3.out.alloc HB3.out.size (.cells #[.string p5, .string v5, .slice A5 n5 c5, .slice AF5 l5 cF5] 60))
  have Hra4 : Hid ((x3.alloc (.cells #[.string p5, .string v5, .slice A5 n5 c5, .slice AF5 l5 cF5] 60)).heap[ra]? = some (.cells #[.string p, .string v, .slice A nm c, .slice AF nf cF] 60 (0, 0))) := Lib.hid ((Below.heap_alloc _ _ _ (lt_of_heap Hra3.out)).trans Hra3.out)
  have Hrt4 : Hid ((x3.alloc (.cells #[.string p5, .string v5, .slice A5 n5 c5, .slice AF5 l5 cF5] 60)).heap[ra + 1]? = some (.cells #[.int .i64 tn, .bool ty] 62 (0, 0))) := Lib.hid ((Below.heap_alloc _ _ _ (lt_of_heap Hrt3.out)).trans Hrt3.out)
  have Hru4 : Hid ((x3.alloc (.cells #[.string p5, .string v5, .slice A5 n5 c5, .slice AF5 l5 cF5] 60)).heap[x3.heap.size]? = some (.cells #[.string p5, .string v5, .slice A5 n5 c5, .slice AF5 l5 cF5] 60 (0, 0))) := Lib.hid (heap_alloc_new _ _)
  have Hm5 := Lib.hid (hm5.keep (Cells.alloc x3 (.cells #[.string p5, .string v5, .slice A5 n5 c5, .slice AF5 l5 cF5] 60)))
  have Hf5 := Lib.hid (hf5.keep (Cells.alloc x3 (.cells #[.string p5, .string v5, .slice A5 n5 c5, .slice AF5 l5 cF5] 60)))
  have Hn5 := Lib.hid hn5
  have Hl5 := Lib.hid hl5
  clear hB hm5 hf5 hn5 hl5 e0 e1 e2 e3 Hra1 Hrt1 HB1
  go_wp2_with ((with_reducible refine at_store 60 ?_); refine wpList_store_new rfl 60 _ _ rfl x3.heap.size rfl #[.string p5, .string v5, .slice A5 n5 c5, .slice AF5 l5 cF5] (sV ⟨#[]⟩ ⟨#[]⟩ nilV nilV).toArray 60 rfl rfl sizeSold rfl (sV_one (p := p5) (v := v5) (mv := .slice A5 n5 c5) (fv := .slice AF5 l5 cF5) rfl rfl) ?_)
  generalize (x3.alloc (.cells #[.string p5, .string v5, .slice A5 n5 c5, .slice AF5 l5 cF5] 60)) = x4 at *
  obtain ⟨ru, hru⟩ : ∃ ru, ru = x3.heap.size := ⟨_, rfl⟩
  rw [← hru] at Hru4 ⊢
  clear hru
  refine (rparseSold_ref s (by omega) x4).mono ?_
  rintro e x5 ⟨E, AE, cE, rfl, hE, hB, hq⟩
  rw [← Her.out] at hq ⊢
  have Hq := Lib.hid hq
  have HE := Lib.hid hE
  have HB5 := Lib.hid (HB4.out.trans (hB.mono HB4.out.size))
  have Hra5 := Lib.hid ((hB.block ra (lt_of_heap Hra4.out)).trans Hra4.out)
  have Hrt5 := Lib.hid ((hB.block (ra + 1) (lt_of_heap Hrt4.out)).trans Hrt4.out)
  have Hru5 := Lib.hid ((hB.block ru (lt_of_heap Hru4.out)).trans Hru4.out)
  have Hm6 := Lib.hid (Hm5.out.keep (Cells.of_below hB))
  have Hf6 := Lib.hid (Hf5.out.keep (Cells.of_below hB))
  have hbe : (er != er) = false := by simp
  clear hB hE hq Hra4 Hrt4 Hru4 Hm5 Hf5 HB4 Hra3 Hrt3 HB3
  by_cases h0 : er = 0
  · subst h0
    obtain ⟨D1, hD1, hd1⟩ := Hz0.out rfl
    obtain ⟨q, hqE⟩ := Hq.out rfl
    have hDE := words_cons hD1 hqE
    obtain ⟨q', a1, a2, a3, R, hDs, hRe⟩ := sold_shape Her.out.symm hD1
    rw [hDE] at hDs hd1
    obtain ⟨rfl, hEs⟩ := List.cons.inj hDs
    have hso : soldOf (q :: E) = ⟨a1, a2, toL a3, filesB R⟩ := by rw [hEs]; rfl
    rw [hso] at hd1
    obtain ⟨rfl, rfl, rfl, rfl⟩ := SoldD.mk.inj hd1
    have hl5b : l5 ≤ 35000 := by
      have h1 := congrArg List.length hD1
      have h2 := wordsOf_count (toL s)
      rw [List.length_map, hDE, List.length_cons, hEs] at h1
      simp only [List.length_cons, toL_len] at h1 h2
      have h3 := Hl5.out
      rw [filesB_len] at h3
      omega
    have hq9 := wrap_half hl5b
    have Hl5b := Lib.hid hl5b
    clear hl5b
    have hl5 : R.length = 2 * l5 := by have := Hl5.out; rw [filesB_len] at this; omega
    have hEl : E.length = 2 * l5 + 3 := by rw [hEs]; simp only [List.length_cons]; omega
    have Hm7 : Hid (Bs x5 A5 c5 (toL a3)) := Hm6
    obtain ⟨bE, oE, s1, hAE, hs1, g0⟩ := str_at (w := x5) (x := E) HE.out (i := 0) (by omega)
    obtain ⟨bE2, oE2, s2, hAE2, hs2, g1⟩ := str_at (w := x5) (x := E) HE.out (i := 1) (by omega)
    obtain ⟨bE3, oE3, s3, hAE3, hs3, g2⟩ := str_at (w := x5) (x := E) HE.out (i := 2) (by omega)
    rw [hEs] at hs1 hs2 hs3
    obtain rfl : p5 = s1 := Option.some.inj hs1
    obtain rfl : v5 = s2 := Option.some.inj hs2
    obtain rfl : a3 = s3 := Option.some.inj hs3
    obtain ⟨rfl, rfl⟩ : bE = bE2 ∧ oE = oE2 := by rw [hAE] at hAE2; injection hAE2 with e; injection e with e1 e2; exact ⟨e1, e2⟩
    obtain ⟨rfl, rfl⟩ : bE = bE3 ∧ oE = oE3 := by rw [hAE] at hAE3; injection hAE3 with e; injection e with e1 e2; exact ⟨e1, e2⟩
    rw [Nat.add_zero] at g0
    have hEs' := Lib.hid hEs
    have HE' := HE
    obtain ⟨eL, heL⟩ : ∃ eL, eL = E.length := ⟨_, rfl⟩
    rw [← heL] at hEl ⊢
    have HeL := Lib.hid heL
    have HR := Lib.hid hl5
    subst hAE
    have hcv : ∀ n, (convert 24 9 (.slice A5 n5 c5)).run Tryd.prog (x5.drewN n) = .ok (.string a3) (x5.drewN n) := fun n => by
      have h : Bs (x5.drewN n) A5 c5 (toL a3) := Hm7.out.keep fun _ _ h => h
      rw [Hn5.out]
      exact str_of_bs h
    have q1 := str_eq p5 p5
    have q2 := str_eq v5 v5
    have q3 := str_eq a3 a3
    rw [decide_eq_true rfl] at q1 q2 q3
    obtain ⟨r0, r1, r2, r3⟩ := row4 Hru5.out
    clear hAE2 hAE3 hs1 hs2 hs3 hEs heL hl5 hDs hDE hso hd1 hqE hD1
    go_wp2_with (go_at_call 11; refine (num_any _ _).mono ?_; rintro e w' ⟨rfl, rfl⟩)
    go_quiet (fail)
    have Hr3 := Lib.hid r3
    clear g0 g1 g2 q1 q2 q3 r0 r1 r2 r3 hcv hEl
    go_wp2_with fail
    go_loopw [12] (fun i wr => TsRel l5 x5 i wr) (fun i _ => l5 - (intOf i).toNat)
    case atStart => exact ⟨0, nq, by omega, rfl, rfl⟩
    case round =>
      obtain ⟨j, n, hj, rfl, hwr⟩ := hrel
      have Hwr := Lib.hid hwr
      have Hwd : Hid (∀ m, ∃ n, wr.drewN m = x5.drewN n) := Lib.hid fun m => by rw [Hwr.out]; exact ⟨_, World.drewN_drewN _ _ _⟩
      have hcw : Cells x5 wr := by rw [hwr]; exact fun _ _ h => h
      have Hf7 := Lib.hid (Hf6.out.keep hcw)
      have HE7 := Lib.hid (HE.out.keep hcw)
      have r3 := hcw _ _ Hr3.out
      clear hwr hcw
      by_cases hlt : j < l5
      · have hjI : (j : Int) < l5 := by omega
        have hj0 : (0 : Int) ≤ j := by omega
        obtain ⟨bf, of_, Ai, ci, hAf, f0, f1, hbs⟩ := Hf7.out.at_ (i := j) (by rw [← Hl5.out]; exact hlt)
        have HR3 := HR.out
        obtain ⟨b3, o3, s3, hA3, hs3, g3⟩ := str_at (w := wr) (x := E) HE7.out (i := 3 + 2 * j) (by rw [hEs'.out]; simp only [List.length_cons]; omega)
        obtain ⟨b4, o4, s4, hA4, hs4, g4⟩ := str_at (w := wr) (x := E) HE7.out (i := 4 + 2 * j) (by rw [hEs'.out]; simp only [List.length_cons]; omega)
        obtain ⟨rfl, rfl⟩ : bE = b3 ∧ oE = o3 := by injection hA3 with e; injection e with e1 e2; exact ⟨e1, e2⟩
        obtain ⟨rfl, rfl⟩ : bE = b4 ∧ oE = o4 := by injection hA4 with e; injection e with e1 e2; exact ⟨e1, e2⟩
        have hfile : (filesB R)[j]? = some (s3, toL s4) := by
          rw [hEs'.out] at hs3 hs4
          rw [show 3 + 2 * j = 2 * j + 1 + 1 + 1 by omega, List.getElem?_cons_succ, List.getElem?_cons_succ, List.getElem?_cons_succ] at hs3
          rw [show 4 + 2 * j = 2 * j + 1 + 1 + 1 + 1 by omega, List.getElem?_cons_succ, List.getElem?_cons_succ, List.getElem?_cons_succ] at hs4
          exact filesB_at R j s3 s4 hs3 hs4
        have hgd : (filesB R).getD j noFl = (s3, toL s4) := by rw [List.getD_eq_getElem?_getD, hfile]; rfl
        rw [hgd] at f0 f1 hbs
        simp only at f0 f1 hbs
        subst hAf
        obtain ⟨nd, hnd⟩ : ∃ nd, nd = (toL s4).length := ⟨_, rfl⟩
        rw [← hnd] at f1
        have hcv : ∀ m, (convert 24 9 (.slice Ai nd ci)).run Tryd.prog (wr.drewN m) = .ok (.string s4) (wr.drewN m) := fun m => by
          have h : Bs (wr.drewN m) Ai ci (toL s4) := hbs.keep fun _ _ h => h
          rw [hnd]
          exact str_of_bs h
        have q1 := str_eq s3 s3
        have q2 := str_eq s4 s4
        rw [decide_eq_true rfl] at q1 q2
        clear hA3 hA4 hs3 hs4 hfile hgd hbs hnd HR3
        have hj35 : j ≤ 35000 := by have := Hl5b.out; omega
        have i3 : (3 + 2 * (j : Int)).toNat = 3 + 2 * j := by omega
        have i4 : (4 + 2 * (j : Int)).toNat = 4 + 2 * j := by omega
        have i3a : (3 + 2 * (j : Int)) < 2 * (l5 : Int) + 3 := by omega
        have i4a : (4 + 2 * (j : Int)) < 2 * (l5 : Int) + 3 := by omega
        have i3b : (0 : Int) ≤ 3 + 2 * (j : Int) := by omega
        have i4b : (0 : Int) ≤ 4 + 2 * (j : Int) := by omega
        have Hm : Hid (∀ m, TsRel l5 x5 (.int .i64 ((j : Int) + 1)) (wr.drewN m)) := Lib.hid fun m => by
          obtain ⟨n2, hn2⟩ := Hwd.out m
          exact ⟨j + 1, n2, by omega, by go_num, hn2⟩
        go_wp2_with fail
        go_quiet (fail)
        go_wp2_with fail
        exact ⟨Hm.out _, by simp [intOf]; omega⟩
      · have hjI : ¬ (j : Int) < l5 := by omega
        obtain ⟨x6, hx6⟩ : ∃ x6, x6 = wr := ⟨_, rfl⟩
        rw [← hx6] at r3 ⊢
        have HB6 : Hid (Below w.heap.size w x6) := Lib.hid (by rw [hx6, Hwr.out]; exact below_drewN HB5.out _)
        have Hra6 : Hid (x6.heap[ra]? = some (.cells #[.string p, .string v, .slice A nm c, .slice AF nf cF] 60 (0, 0))) := Lib.hid (by rw [hx6, Hwr.out]; exact Hra5.out)
        have Hrt6 : Hid (x6.heap[ra + 1]? = some (.cells #[.int .i64 tn, .bool ty] 62 (0, 0))) := Lib.hid (by rw [hx6, Hwr.out]; exact Hrt5.out)
        clear hx6 Hwd Hwr Hf7 HE7
        obtain ⟨e0, e1, e2, e3⟩ := row4 Hra6.out
        have He3 := Lib.hid e3
        have Hm7t := Lib.hid (Hm0.out.keep (Cells.of_below HB6.out))
        obtain ⟨M, hM⟩ : ∃ M, M = (⟨man.toArray⟩ : ByteArray) := ⟨_, rfl⟩
        have HM : Hid (toL M = man) := Lib.hid (by rw [hM]; rfl)
        have hcm : (convert 24 9 (.slice A nm c)).run Tryd.prog x6 = .ok (.string M) x6 := by rw [hM, Hnm.out]; exact str_of_bs Hm7t.out
        clear hM
        go_wp2_with (go_at_call 11; refine (num_any _ _).mono ?_; rintro e w' ⟨rfl, rfl⟩)
        generalize hx7 : World.alloc x6 _ = x7
        have hx7' : x6.alloc (.cells (txs [mkS sellW, p, v, M]).toArray 9) = x7 := hx7
        have hown7 : x7.ownsRow x6.heap.size 9 1 (.slice (some ⟨x6.heap.size, 0, none⟩) 4 4) 4 (txs [mkS sellW, p, v, M]) := by rw [← hx7']; exact own_of_block (Nat.le_refl _) (heap_alloc_new _ _) (by unfold maxLen; simp [txs])
        have hB7 : Below x6.heap.size x6 x7 := by rw [← hx7']; exact (Below.refl _ _).alloc (Nat.le_refl _) _
        have HL7 : Hid (List.map toL [mkS sellW, p, v, M] = sellW :: toL p :: toL v :: man :: flatL (files.take 0)) := Lib.hid (by rw [← HM.out]; simp [toL_mkS, flatL])
        have Hown7 := Lib.hid hown7
        have HB7 := Lib.hid hB7
        have e3 := (hB7.cell (lt_of_heap Hra6.out)).trans e3
        obtain ⟨g7, hg7⟩ : ∃ g7, g7 = x6.heap.size := ⟨_, rfl⟩
        have Hown7 : Hid (x7.ownsRow x6.heap.size 9 1 (.slice (some ⟨g7, 0, none⟩) 4 4) 4 (txs [mkS sellW, p, v, M])) := by rw [hg7]; exact Hown7
        rw [← hg7]
        clear hx7 hx7' hown7 hB7 hg7 hcm
        go_wp2_with fail
        go_loopw [13, 14] (fun ov iv wr => TwRel x6 ⟨p, v, man, files⟩ ov iv wr) (fun _ iv _ => nf - (intOf iv).toNat)
        case atStart => exact ⟨0, [mkS sellW, p, v, M], by omega, rfl, HL7.out, rfl, Hown7.out, HB7.out⟩
        case round =>
          clear Hown7 HB7 HL7
          obtain ⟨j, L, hj, rfl, hL, hLl, hown, hB⟩ := hrel
          simp only at hj hL
          have HL := Lib.hid hL
          have Hown := Lib.hid hown
          have HB := Lib.hid hB
          have hrz := hB.size
          rw [← Hnf.out] at hj
          obtain ⟨Av, cv, rfl, _, _, _, _⟩ := own_form hown
          have HLl := Lib.hid hLl
          have hLb : L.length ≤ 2097156 := by omega
          have c3 : wr.cell? ⟨ra, 3, none⟩ = some (.slice AF nf cF) := (hB.cell (lt_of_heap Hra6.out)).trans He3.out
          clear hL hown hB hLl
          by_cases hlt : j < nf
          · have hjI : (j : Int) < nf := by omega
            have hjr : (0 : Int) ≤ j := by omega
            obtain ⟨bf, of_, Ai, ci, rfl, g1, g2, hbs⟩ := (Hf0.out.keep (Cells.of_below (HB6.out.trans (HB.out.mono HB6.out.size)))).at_ (i := j) (by rw [← Hnf.out]; exact hlt)
            have hqs := Hk4.out _ (List.mem_of_getElem? (fl_getD (ps := files) (i := j) (by rw [← Hnf.out]; exact hlt)))
            have Htk := Lib.hid (take_getD (ps := files) (i := j) (by rw [← Hnf.out]; exact hlt))
            generalize files.getD j noFl = q at *
            obtain ⟨q1, q2⟩ := q
            simp only at g1 g2 hbs hqs
            obtain ⟨hq1, hq2⟩ := hqs
            obtain ⟨M2, hM2⟩ : ∃ M2, M2 = (⟨q2.toArray⟩ : ByteArray) := ⟨_, rfl⟩
            have HM2 : Hid (toL M2 = q2) := Lib.hid (by rw [hM2]; rfl)
            have hcm2 : ∀ w', Bs w' Ai ci q2 → (convert 24 9 (.slice Ai q2.length ci)).run Tryd.prog w' = .ok (.string M2) w' := fun w' h => by rw [hM2]; exact str_of_bs h
            obtain ⟨n2, hn2⟩ : ∃ n2, n2 = q2.length := ⟨_, rfl⟩
            rw [← hn2] at hcm2 g2
            clear hM2 hn2
            go_wp2_with fail
            have d0 : wr.drew.cell? ⟨ra, 3, none⟩ = some (.slice (some ⟨bf, of_, none⟩) nf cF) := c3
            have d1 : wr.drew.cell? ⟨bf, of_ + j * 2, none⟩ = some (.string q1) := g1
            have d2 : wr.drew.cell? ⟨bf, of_ + j * 2 + 1, none⟩ = some (.slice Ai n2 ci) := g2
            have d3 : Bs wr.drew Ai ci q2 := hbs.keep fun _ _ h => h
            obtain ⟨iS, hiS, hzS, hsS, hbS⟩ := info_parts infoStr1
            clear g1 g2 hbs c3
            with_reducible refine g_mixx [(0, 1), (1, 0), (2, 0), (3, 1), (4, 0), (5, 0), (6, 0), (7, 0), (8, 0), (9, 1), (10, 0), (11, 0), (12, 0), (13, 0), (14, 2), (15, 3), (16, 1)] (fun w' => (w'.cell? ⟨ra, 3, none⟩ = some (.slice (some ⟨bf, of_, none⟩) nf cF) ∧ w'.cell? ⟨bf, of_ + j * 2, none⟩ = some (.string q1) ∧ w'.cell? ⟨bf, of_ + j * 2 + 1, none⟩ = some (.slice Ai n2 ci)) ∧ Bs w' Ai ci q2) 0 _ rfl (by kernel_rfl) (by kernel_rfl) ?_ ?_
            · exact ⟨⟨d0, d1, d2⟩, d3⟩
            intro OPS HD
            simp only [mixX, nthO, consX]
            iterate 1 ((with_reducible refine x_any (v := ?_) ?_ ?_); rotate_left; (rintro _; go_simp; first | done | rfl | (constructor <;> rfl)))
            iterate 2 ((with_reducible refine x_val (v := ?_) ?_ ?_ ?_); rotate_left; (rintro _ ⟨⟨h1, h2, h3⟩, h4⟩; go_simp; first | done | rfl | (constructor <;> rfl)); exact ⟨⟨d0, d1, d2⟩, d3⟩)
            iterate 1 ((with_reducible refine x_any (v := ?_) ?_ ?_); rotate_left; (rintro _; go_simp; first | done | rfl | (constructor <;> rfl)))
            iterate 5 ((with_reducible refine x_val (v := ?_) ?_ ?_ ?_); rotate_left; (rintro _ ⟨⟨h1, h2, h3⟩, h4⟩; go_simp; first | done | rfl | (constructor <;> rfl)); exact ⟨⟨d0, d1, d2⟩, d3⟩)
            iterate 1 ((with_reducible refine x_any (v := ?_) ?_ ?_); rotate_left; (rintro _; go_simp; first | done | rfl | (constructor <;> rfl)))
            iterate 3 ((with_reducible refine x_val (v := ?_) ?_ ?_ ?_); rotate_left; (rintro _ ⟨⟨h1, h2, h3⟩, h4⟩; go_simp; first | done | rfl | (constructor <;> rfl)); exact ⟨⟨d0, d1, d2⟩, d3⟩)
            refine x_val (v := .string M2) (fun wy hy => ?_) ⟨⟨d0, d1, d2⟩, d3⟩ ?_
            · have hq := hcm2 wy hy.2
              go_simp
            with_reducible refine x_one ?_
            iterate 1 (with_reducible refine l_val (v := ?_) (w' := ?_) ?_ ?_; rotate_left 2; (go_simp; first | done | rfl | (constructor <;> rfl)))
            refine x_keep ⟨⟨Cells.alloc _ _ _ _ d0, Cells.alloc _ _ _ _ d1, Cells.alloc _ _ _ _ d2⟩, d3.keep (Cells.alloc _ _)⟩ ?_
            with_reducible refine x_three ?_
            have Hoy : Hid (wr.drew.ownsRow x6.heap.size 9 1 (.slice Av L.length cv) L.length (txs L)) := Lib.hid (own_keep Hown.out fun _ _ hq => hq)
            have HBy : Hid (Below x6.heap.size x6 wr.drew) := Lib.hid ⟨HB.out.os, HB.out.tape, HB.out.output, HB.out.size, HB.out.block⟩
            have hyz := HBy.out.size
            refine wpList_append_own _ rfl (.tmp 176) (.tmp 190) 39 rfl x6.heap.size 9 iS (.string ByteArray.empty) 1 16 Tryd.underlying39 hiS hzS hsS hbS rfl (by omega) (.slice Av L.length cv) L.length (txs L) ?_ (Hoy.out.alloc _) ⟨wr.drew.heap.size, 0, none⟩ 2 2 [.string q1, .string M2] ?_ rfl (fun j v hv => World.news_of_block (w := wr.drew.alloc _) (heap_alloc_new wr.drew _) j v hv) (by intro u hu; simp only [List.mem_cons, List.not_mem_nil, or_false] at hu; rcases hu with rfl | rfl <;> rfl) (by unfold maxLen; omega) (by omega) (by simp; omega) ?_
            · simp [Act.eval, Act.put]
            · simp [Act.eval, Act.put]
            intro v1 wp hown1 hgrow1 _
            have hm : TwRel x6 ⟨p, v, man, files⟩ v1 (.int .i64 ((j : Int) + 1)) wp := by
              refine ⟨j + 1, L ++ [q1, M2], by simp only; rw [← Hnf.out]; omega, by go_num, ?_, by rw [List.length_append, HLl.out]; simp; omega, ?_, (HBy.out.alloc hyz _).grown hgrow1 (by simp; omega) (fun q hq => (own_blk Hoy.out q hq).1)⟩
              · simp only
                rw [List.map_append, HL.out, Htk.out, flatL_append]
                simp [flatL, HM2.out]
              · have e1 : (L ++ [q1, M2]).length = L.length + 2 := by simp
                have e2 : txs (L ++ [q1, M2]) = txs L ++ [.string q1, .string M2] := by simp [txs]
                rw [e1, e2]
                exact hown1
            have Hm := Lib.hid hm
            obtain ⟨Av1, cv1, rfl, _, _, _, _⟩ := own_form hown1
            clear hm hown1 hgrow1 d0 d1 d2 d3
            with_reducible refine x_last ?_
            iterate 1 ((with_reducible refine x_any (v := ?_) ?_ ?_); rotate_left; (rintro _; go_simp; first | done | rfl | (constructor <;> rfl)))
            with_reducible refine x_end ?_
            simp only [Act.put, List.setIfInBounds_toArray, List.set_cons_zero, List.set_cons_succ]
            clear HD
            go_wp2_with fail
            exact ⟨Hm.out, by simp [intOf]; omega⟩
          · have hjI : ¬ (j : Int) < nf := by omega
            have hjn : j = files.length := by rw [← Hnf.out]; omega
            have HLf : Hid (L.map toL = soldWords ⟨p, v, man, files⟩) := Lib.hid (by
              rw [HL.out, hjn, List.take_of_length_le (Nat.le_refl _)]
              rfl)
            obtain ⟨A9, c9, h9, hS9⟩ := row_sl Hown.out
            cases h9
            have HS9 := Lib.hid hS9
            have HB9 := Lib.hid (HB6.out.trans (HB.out.mono HB6.out.size))
            have HBr := HB
            have HLs : Hid (∀ x ∈ L, x.size ≤ 1048576) := Lib.hid fun x hx => by
              have h1 := soldWords_small Hd.out (toL x) (by have := List.mem_map_of_mem (f := toL) hx; rwa [HLf.out] at this)
              rwa [toL_len] at h1
            have hLn : L.length ≤ 100000 := by rw [HLl.out]; omega
            clear hS9 hjn hlt
            go_wp2_with fail
            clear c3
            refine (line_ref _ L _ _ HS9.out HLs.out hLn).mono ?_
            rintro e w5 ⟨rfl, hB5⟩
            rw [wrD_eq, HLf.out]
            have HB10 := Lib.hid (HBr.out.trans (hB5.mono HBr.out.size))
            obtain ⟨Q, hQ⟩ : ∃ Q, Q = mkS (joinB ((soldWords ⟨p, v, man, files⟩).map writeW)) := ⟨_, rfl⟩
            obtain ⟨sh, hsh⟩ : ∃ sh, sh = decide ((joinB ((soldWords ⟨p, v, man, files⟩).map writeW)).length ≤ 65536) := ⟨_, rfl⟩
            rw [← hQ, ← hsh]
            have HQ := Lib.hid hQ
            clear hB5 hQ hsh
            have Hra7 := Lib.hid ((HB10.out.block ra (lt_of_heap Hra6.out)).trans Hra6.out)
            have Hrt7 := Lib.hid ((HB10.out.block (ra + 1) (lt_of_heap Hrt6.out)).trans Hrt6.out)
            go_wp2_with ((with_reducible refine at_load 60 ?_); refine wpList_load_row rfl 60 _ rfl ra rfl 60 #[.string p, .string v, .slice A nm c, .slice AF nf cF] (0, 0) _ Hra7.out Tryd.underlying60 rfl sizeSold ?_)
            refine (formatSold_any _ _ ⟨p, v, man, files⟩ (HVb.out w5 (Cells.of_below (HB6.out.trans (HB10.out.mono HB6.out.size)))) Hd.out).mono ?_
            rintro e w6 ⟨rfl, hB6⟩
            rw [← HQ.out]
            have HB11 := Lib.hid (HB10.out.trans (hB6.mono HB10.out.size))
            have Hra8 := Lib.hid ((HB11.out.block ra (lt_of_heap Hra6.out)).trans Hra6.out)
            have Hrt8 := Lib.hid ((HB11.out.block (ra + 1) (lt_of_heap Hrt6.out)).trans Hrt6.out)
            have sq := str_eq Q Q
            rw [decide_eq_true rfl] at sq
            have t0 : w6.cell? ⟨ra + 1, 0, none⟩ = some (.int .i64 tn) := (blk_cells Hrt8.out).1 0
            clear hB6 Hra7 Hrt7
            go_wp2_with (go_at_call 11; refine (num_any _ _).mono ?_; rintro e w' ⟨rfl, rfl⟩)
            refine (itoa_call hn1 hn2 (Hw.out.below (HB6.out.trans (HB11.out.mono HB6.out.size)))).mono ?_
            rintro e w7 ⟨rfl, hB7⟩
            have HB12 := Lib.hid (HB11.out.trans (hB7.mono HB11.out.size))
            have Hra9 := Lib.hid ((HB12.out.block ra (lt_of_heap Hra6.out)).trans Hra6.out)
            have Hrt9 := Lib.hid ((HB12.out.block (ra + 1) (lt_of_heap Hrt6.out)).trans Hrt6.out)
            have hil := itoa_len hn1 hn2
            obtain ⟨IT, hIT⟩ : ∃ IT, IT = mkS (Lib.itoa tn) := ⟨_, rfl⟩
            have hITz : IT.size ≤ 20 := by rw [hIT, mkS_size]; exact hil
            rw [← hIT]
            have HIT := Lib.hid hIT
            have t0 : w7.cell? ⟨ra + 1, 0, none⟩ = some (.int .i64 tn) := (blk_cells Hrt9.out).1 0
            have t1 : w7.cell? ⟨ra + 1, 1, none⟩ = some (.bool ty) := (blk_cells Hrt9.out).1 1
            clear hB7 hil hIT Hra8 Hrt8
            have Hlw := Lib.hid (Hw.out.below (HB6.out.trans (HB12.out.mono HB6.out.size)))
            by_cases ht0 : tn = 0
            · subst ht0
              cases ty with
              | true =>
                have HT : mkS (toldW 0 true) = ⟨#[111, 107, 32, 121, 101, 115]⟩ := rfl
                go_wp2_with (first
                  | (go_at_call 11; refine (num_any _ _).mono ?_; rintro e w' ⟨rfl, rfl⟩)
                  | ((with_reducible refine at_load 62 ?_); refine wpList_load_row rfl 62 _ rfl (ra + 1) rfl 62 #[.int .i64 _, .bool _] (0, 0) _ Hrt9.out Tryd.underlying62 rfl sizeTold ?_))
                refine (formatTold_any _ _ _ ⟨hn1, hn2⟩ Hlw.out).mono ?_
                rintro e w8 ⟨rfl, hB8⟩
                have HB13 := Lib.hid (HB12.out.trans (hB8.mono HB12.out.size))
                have Hra10 := Lib.hid ((HB13.out.block ra (lt_of_heap Hra6.out)).trans Hra6.out)
                clear hB8 t0 t1 Hra9 Hrt9
                rw [HT]
                have st := str_eq (⟨#[111, 107, 32, 121, 101, 115]⟩ : ByteArray) ⟨#[111, 107, 32, 121, 101, 115]⟩
                rw [decide_eq_true rfl] at st
                by_cases hz : (65536 : Int) < Q.size
                · go_wp2_with fail
                  go_ret
                  exact ⟨rfl, HB6.out.trans (HB13.out.mono HB6.out.size)⟩
                have HSk := Lib.hid (sold_back (d := ⟨p, v, man, files⟩) (by have := hz; rw [HQ.out, mkS_size] at this; omega))
                have hzn : Q.size ≤ 1048576 := by omega
                go_wp2_with fail
                refine (parseSold_any Q hzn w8).mono ?_
                rintro e x9 ⟨U, dd, rfl, hU, hB9, hz0, hz1⟩
                have hse : soldErr (toL Q) = 0 := by rw [HQ.out, toL_mkS]; exact HSk.out.1
                rw [hse] at hz0 ⊢
                obtain ⟨D, hD, hdd⟩ := hz0 rfl
                rw [HSk.out.2 D (by rw [hD, HQ.out, toL_mkS])] at hdd
                subst hdd
                obtain ⟨Ab, cb, AFb, cFb, rfl, hmb, hfb⟩ := hU
                simp only [sV] at hmb hfb ⊢
                rw [← Hnm.out, ← Hnf.out]
                have HB14 := Lib.hid (HB13.out.trans (hB9.mono HB13.out.size))
                have HB15 := Lib.hid (HB14.out.alloc HB14.out.size (.cells #[.string p, .string v, .slice Ab nm cb, .slice AFb nf cFb] 60))
                have Hru11 : Hid ((x9.alloc (.cells #[.string p, .string v, .slice Ab nm cb, .slice AFb nf cFb] 60)).heap[x9.heap.size]? = some (.cells #[.string p, .string v, .slice Ab nm cb, .slice AFb nf cFb] 60 (0, 0))) := Lib.hid (heap_alloc_new _ _)
                have Hmb := Lib.hid (hmb.keep (Cells.alloc x9 (.cells #[.string p, .string v, .slice Ab nm cb, .slice AFb nf cFb] 60)))
                have Hfb := Lib.hid (hfb.keep (Cells.alloc x9 (.cells #[.string p, .string v, .slice Ab nm cb, .slice AFb nf cFb] 60)))
                clear hB9 hmb hfb hse hz0 hz1 hD
                go_wp2_with ((with_reducible refine at_store 60 ?_); refine wpList_store_new rfl 60 _ _ rfl x9.heap.size rfl #[.string p, .string v, .slice Ab nm cb, .slice AFb nf cFb] (sV ⟨#[]⟩ ⟨#[]⟩ nilV nilV).toArray 60 rfl rfl sizeSold rfl (sV_one (p := p) (v := v) (mv := .slice Ab nm cb) (fv := .slice AFb nf cFb) rfl rfl) ?_)
                generalize (x9.alloc (.cells #[.string p, .string v, .slice Ab nm cb, .slice AFb nf cFb] 60)) = y at *
                obtain ⟨rb, hrb⟩ : ∃ rb, rb = x9.heap.size := ⟨_, rfl⟩
                rw [← hrb] at Hru11 ⊢
                have hray := (HB15.out.block ra (lt_of_heap Hra6.out)).trans Hra6.out
                have HBz := Lib.hid (HB6.out.trans (HB15.out.mono HB6.out.size))
                obtain ⟨y0, y1, y2, y3⟩ := row4 Hru11.out
                obtain ⟨z0, z1, z2, z3⟩ := row4 hray
                have hsb : Calls Tryd.prog 30 #[.slice Ab nm cb, .slice A nm c] y fun e w' => e = .returned (.bool true) ∧ ∃ n, w' = y.drewN n := by
                  have h := same_any man man Ab A cb c y Hmb.out (Hm0.out.keep (Cells.of_below HBz.out))
                  rw [← Hnm.out, beq_self_eq_true] at h
                  exact h
                have hsf : ∀ n, Calls Tryd.prog 31 #[.slice AFb nf cFb, .slice AF nf cF] (y.drewN n) fun e w' => e = .returned (.bool true) ∧ ∃ m, w' = (y.drewN n).drewN m := fun n => by
                  have h := samef_any files files AFb AF cFb cF (y.drewN n) (Hfb.out.keep fun _ _ h => h) ((Hf0.out.keep (Cells.of_below HBz.out)).keep fun _ _ h => h)
                  rw [← Hnf.out, decide_eq_true rfl] at h
                  exact h
                have Hsb := Lib.hid hsb
                have Hsf := Lib.hid hsf
                have sp := str_eq p p
                have sv := str_eq v v
                rw [decide_eq_true rfl] at sp sv
                clear hray hsb hsf hrb
                refine (num_any _ _).mono ?_
                rintro e w' ⟨rfl, rfl⟩
                go_wp2_with (first
                  | (go_at_call 30; refine Hsb.out.mono ?_; rintro e w' ⟨rfl, nb, rfl⟩)
                  | (go_at_call 31; refine (Hsf.out _).mono ?_; rintro e w' ⟨rfl, nc, rfl⟩))
                go_ret
                exact ⟨rfl, below_drewN HBz.out _⟩
              | false =>
                have HT : mkS (toldW 0 false) = ⟨#[111, 107]⟩ := rfl
                go_wp2_with (first
                  | (go_at_call 11; refine (num_any _ _).mono ?_; rintro e w' ⟨rfl, rfl⟩)
                  | ((with_reducible refine at_load 62 ?_); refine wpList_load_row rfl 62 _ rfl (ra + 1) rfl 62 #[.int .i64 _, .bool _] (0, 0) _ Hrt9.out Tryd.underlying62 rfl sizeTold ?_))
                refine (formatTold_any _ _ _ ⟨hn1, hn2⟩ Hlw.out).mono ?_
                rintro e w8 ⟨rfl, hB8⟩
                have HB13 := Lib.hid (HB12.out.trans (hB8.mono HB12.out.size))
                have Hra10 := Lib.hid ((HB13.out.block ra (lt_of_heap Hra6.out)).trans Hra6.out)
                clear hB8 t0 t1 Hra9 Hrt9
                rw [HT]
                have st := str_eq (⟨#[111, 107]⟩ : ByteArray) ⟨#[111, 107]⟩
                rw [decide_eq_true rfl] at st
                by_cases hz : (65536 : Int) < Q.size
                · go_wp2_with fail
                  go_ret
                  exact ⟨rfl, HB6.out.trans (HB13.out.mono HB6.out.size)⟩
                have HSk := Lib.hid (sold_back (d := ⟨p, v, man, files⟩) (by have := hz; rw [HQ.out, mkS_size] at this; omega))
                have hzn : Q.size ≤ 1048576 := by omega
                go_wp2_with fail
                refine (parseSold_any Q hzn w8).mono ?_
                rintro e x9 ⟨U, dd, rfl, hU, hB9, hz0, hz1⟩
                have hse : soldErr (toL Q) = 0 := by rw [HQ.out, toL_mkS]; exact HSk.out.1
                rw [hse] at hz0 ⊢
                obtain ⟨D, hD, hdd⟩ := hz0 rfl
                rw [HSk.out.2 D (by rw [hD, HQ.out, toL_mkS])] at hdd
                subst hdd
                obtain ⟨Ab, cb, AFb, cFb, rfl, hmb, hfb⟩ := hU
                simp only [sV] at hmb hfb ⊢
                rw [← Hnm.out, ← Hnf.out]
                have HB14 := Lib.hid (HB13.out.trans (hB9.mono HB13.out.size))
                have HB15 := Lib.hid (HB14.out.alloc HB14.out.size (.cells #[.string p, .string v, .slice Ab nm cb, .slice AFb nf cFb] 60))
                have Hru11 : Hid ((x9.alloc (.cells #[.string p, .string v, .slice Ab nm cb, .slice AFb nf cFb] 60)).heap[x9.heap.size]? = some (.cells #[.string p, .string v, .slice Ab nm cb, .slice AFb nf cFb] 60 (0, 0))) := Lib.hid (heap_alloc_new _ _)
                have Hmb := Lib.hid (hmb.keep (Cells.alloc x9 (.cells #[.string p, .string v, .slice Ab nm cb, .slice AFb nf cFb] 60)))
                have Hfb := Lib.hid (hfb.keep (Cells.alloc x9 (.cells #[.string p, .string v, .slice Ab nm cb, .slice AFb nf cFb] 60)))
                clear hB9 hmb hfb hse hz0 hz1 hD
                go_wp2_with ((with_reducible refine at_store 60 ?_); refine wpList_store_new rfl 60 _ _ rfl x9.heap.size rfl #[.string p, .string v, .slice Ab nm cb, .slice AFb nf cFb] (sV ⟨#[]⟩ ⟨#[]⟩ nilV nilV).toArray 60 rfl rfl sizeSold rfl (sV_one (p := p) (v := v) (mv := .slice Ab nm cb) (fv := .slice AFb nf cFb) rfl rfl) ?_)
                generalize (x9.alloc (.cells #[.string p, .string v, .slice Ab nm cb, .slice AFb nf cFb] 60)) = y at *
                obtain ⟨rb, hrb⟩ : ∃ rb, rb = x9.heap.size := ⟨_, rfl⟩
                rw [← hrb] at Hru11 ⊢
                have hray := (HB15.out.block ra (lt_of_heap Hra6.out)).trans Hra6.out
                have HBz := Lib.hid (HB6.out.trans (HB15.out.mono HB6.out.size))
                obtain ⟨y0, y1, y2, y3⟩ := row4 Hru11.out
                obtain ⟨z0, z1, z2, z3⟩ := row4 hray
                have hsb : Calls Tryd.prog 30 #[.slice Ab nm cb, .slice A nm c] y fun e w' => e = .returned (.bool true) ∧ ∃ n, w' = y.drewN n := by
                  have h := same_any man man Ab A cb c y Hmb.out (Hm0.out.keep (Cells.of_below HBz.out))
                  rw [← Hnm.out, beq_self_eq_true] at h
                  exact h
                have hsf : ∀ n, Calls Tryd.prog 31 #[.slice AFb nf cFb, .slice AF nf cF] (y.drewN n) fun e w' => e = .returned (.bool true) ∧ ∃ m, w' = (y.drewN n).drewN m := fun n => by
                  have h := samef_any files files AFb AF cFb cF (y.drewN n) (Hfb.out.keep fun _ _ h => h) ((Hf0.out.keep (Cells.of_below HBz.out)).keep fun _ _ h => h)
                  rw [← Hnf.out, decide_eq_true rfl] at h
                  exact h
                have Hsb := Lib.hid hsb
                have Hsf := Lib.hid hsf
                have sp := str_eq p p
                have sv := str_eq v v
                rw [decide_eq_true rfl] at sp sv
                clear hray hsb hsf hrb
                refine (num_any _ _).mono ?_
                rintro e w' ⟨rfl, rfl⟩
                go_wp2_with (first
                  | (go_at_call 30; refine Hsb.out.mono ?_; rintro e w' ⟨rfl, nb, rfl⟩)
                  | (go_at_call 31; refine (Hsf.out _).mono ?_; rintro e w' ⟨rfl, nc, rfl⟩))
                go_ret
                exact ⟨rfl, below_drewN HBz.out _⟩
            · have hb0 : (tn == 0) = false := beq_eq_false_iff_ne.2 ht0
              have HT : Hid (mkS (toldW tn ty) = (⟨#[101, 114, 114, 32]⟩ : ByteArray) ++ IT) := Lib.hid (by
                apply toL_inj
                rw [HIT.out, toL_append, toL_mkS, toL_mkS]
                unfold toldW
                rw [if_pos ht0]
                rfl)
              clear ht0
              go_wp2_with (first
                | (go_at_call 11; refine (num_any _ _).mono ?_; rintro e w' ⟨rfl, rfl⟩)
                | ((with_reducible refine at_load 62 ?_); refine wpList_load_row rfl 62 _ rfl (ra + 1) rfl 62 #[.int .i64 _, .bool _] (0, 0) _ Hrt9.out Tryd.underlying62 rfl sizeTold ?_))
              refine (formatTold_any _ _ _ ⟨hn1, hn2⟩ Hlw.out).mono ?_
              rintro e w8 ⟨rfl, hB8⟩
              have HB13 := Lib.hid (HB12.out.trans (hB8.mono HB12.out.size))
              have Hra10 := Lib.hid ((HB13.out.block ra (lt_of_heap Hra6.out)).trans Hra6.out)
              clear hB8 t0 t1 Hra9 Hrt9
              rw [HT.out]
              have st := str_eq ((⟨#[101, 114, 114, 32]⟩ : ByteArray) ++ IT) ((⟨#[101, 114, 114, 32]⟩ : ByteArray) ++ IT)
              rw [decide_eq_true rfl] at st
              by_cases hz : (65536 : Int) < Q.size
              · go_wp2_with fail
                go_ret
                exact ⟨rfl, HB6.out.trans (HB13.out.mono HB6.out.size)⟩
              have HSk := Lib.hid (sold_back (d := ⟨p, v, man, files⟩) (by have := hz; rw [HQ.out, mkS_size] at this; omega))
              have hzn : Q.size ≤ 1048576 := by omega
              go_wp2_with fail
              refine (parseSold_any Q hzn w8).mono ?_
              rintro e x9 ⟨U, dd, rfl, hU, hB9, hz0, hz1⟩
              have hse : soldErr (toL Q) = 0 := by rw [HQ.out, toL_mkS]; exact HSk.out.1
              rw [hse] at hz0 ⊢
              obtain ⟨D, hD, hdd⟩ := hz0 rfl
              rw [HSk.out.2 D (by rw [hD, HQ.out, toL_mkS])] at hdd
              subst hdd
              obtain ⟨Ab, cb, AFb, cFb, rfl, hmb, hfb⟩ := hU
              simp only [sV] at hmb hfb ⊢
              rw [← Hnm.out, ← Hnf.out]
              have HB14 := Lib.hid (HB13.out.trans (hB9.mono HB13.out.size))
              have HB15 := Lib.hid (HB14.out.alloc HB14.out.size (.cells #[.string p, .string v, .slice Ab nm cb, .slice AFb nf cFb] 60))
              have Hru11 : Hid ((x9.alloc (.cells #[.string p, .string v, .slice Ab nm cb, .slice AFb nf cFb] 60)).heap[x9.heap.size]? = some (.cells #[.string p, .string v, .slice Ab nm cb, .slice AFb nf cFb] 60 (0, 0))) := Lib.hid (heap_alloc_new _ _)
              have Hmb := Lib.hid (hmb.keep (Cells.alloc x9 (.cells #[.string p, .string v, .slice Ab nm cb, .slice AFb nf cFb] 60)))
              have Hfb := Lib.hid (hfb.keep (Cells.alloc x9 (.cells #[.string p, .string v, .slice Ab nm cb, .slice AFb nf cFb] 60)))
              clear hB9 hmb hfb hse hz0 hz1 hD
              go_wp2_with ((with_reducible refine at_store 60 ?_); refine wpList_store_new rfl 60 _ _ rfl x9.heap.size rfl #[.string p, .string v, .slice Ab nm cb, .slice AFb nf cFb] (sV ⟨#[]⟩ ⟨#[]⟩ nilV nilV).toArray 60 rfl rfl sizeSold rfl (sV_one (p := p) (v := v) (mv := .slice Ab nm cb) (fv := .slice AFb nf cFb) rfl rfl) ?_)
              generalize (x9.alloc (.cells #[.string p, .string v, .slice Ab nm cb, .slice AFb nf cFb] 60)) = y at *
              obtain ⟨rb, hrb⟩ : ∃ rb, rb = x9.heap.size := ⟨_, rfl⟩
              rw [← hrb] at Hru11 ⊢
              have hray := (HB15.out.block ra (lt_of_heap Hra6.out)).trans Hra6.out
              have HBz := Lib.hid (HB6.out.trans (HB15.out.mono HB6.out.size))
              obtain ⟨y0, y1, y2, y3⟩ := row4 Hru11.out
              obtain ⟨z0, z1, z2, z3⟩ := row4 hray
              have hsb : Calls Tryd.prog 30 #[.slice Ab nm cb, .slice A nm c] y fun e w' => e = .returned (.bool true) ∧ ∃ n, w' = y.drewN n := by
                have h := same_any man man Ab A cb c y Hmb.out (Hm0.out.keep (Cells.of_below HBz.out))
                rw [← Hnm.out, beq_self_eq_true] at h
                exact h
              have hsf : ∀ n, Calls Tryd.prog 31 #[.slice AFb nf cFb, .slice AF nf cF] (y.drewN n) fun e w' => e = .returned (.bool true) ∧ ∃ m, w' = (y.drewN n).drewN m := fun n => by
                have h := samef_any files files AFb AF cFb cF (y.drewN n) (Hfb.out.keep fun _ _ h => h) ((Hf0.out.keep (Cells.of_below HBz.out)).keep fun _ _ h => h)
                rw [← Hnf.out, decide_eq_true rfl] at h
                exact h
              have Hsb := Lib.hid hsb
              have Hsf := Lib.hid hsf
              have sp := str_eq p p
              have sv := str_eq v v
              rw [decide_eq_true rfl] at sp sv
              clear hray hsb hsf hrb
              refine (num_any _ _).mono ?_
              rintro e w' ⟨rfl, rfl⟩
              go_wp2_with (first
                | (go_at_call 30; refine Hsb.out.mono ?_; rintro e w' ⟨rfl, nb, rfl⟩)
                | (go_at_call 31; refine (Hsf.out _).mono ?_; rintro e w' ⟨rfl, nc, rfl⟩))
              go_ret
              exact ⟨rfl, below_drewN HBz.out _⟩
  · have hd5 := Hz1.out h0
    obtain ⟨rfl, rfl, rfl, rfl⟩ := SoldD.mk.inj hd5
    have hl0 : l5 = 0 := Hl5.out
    subst hl0
    have hn0 : n5 = 0 := Hn5.out
    subst hn0
    have hne0 : (er == 0) = false := beq_eq_false_iff_ne.2 h0
    obtain ⟨r0, r1, r2, r3⟩ := row4 Hru5.out
    clear hd5 h0
    obtain ⟨x6, hx6⟩ : ∃ x6, x6 = x5 := ⟨_, rfl⟩
    rw [← hx6] at r0 r1 r2 r3 ⊢
    have HB6 : Hid (Below w.heap.size w x6) := by rw [hx6]; exact HB5
    have Hra6 : Hid (x6.heap[ra]? = some (.cells #[.string p, .string v, .slice A nm c, .slice AF nf cF] 60 (0, 0))) := by rw [hx6]; exact Hra5
    have Hrt6 : Hid (x6.heap[ra + 1]? = some (.cells #[.int .i64 tn, .bool ty] 62 (0, 0))) := by rw [hx6]; exact Hrt5
    clear hx6
    obtain ⟨e0, e1, e2, e3⟩ := row4 Hra6.out
    have He3 := Lib.hid e3
    have Hm7t := Lib.hid (Hm0.out.keep (Cells.of_below HB6.out))
    obtain ⟨M, hM⟩ : ∃ M, M = (⟨man.toArray⟩ : ByteArray) := ⟨_, rfl⟩
    have HM : Hid (toL M = man) := Lib.hid (by rw [hM]; rfl)
    have hcm : (convert 24 9 (.slice A nm c)).run Tryd.prog x6 = .ok (.string M) x6 := by rw [hM, Hnm.out]; exact str_of_bs Hm7t.out
    clear hM
    go_wp2_with (go_at_call 11; refine (num_any _ _).mono ?_; rintro e w' ⟨rfl, rfl⟩)
    generalize hx7 : World.alloc x6 _ = x7
    have hx7' : x6.alloc (.cells (txs [mkS sellW, p, v, M]).toArray 9) = x7 := hx7
    have hown7 : x7.ownsRow x6.heap.size 9 1 (.slice (some ⟨x6.heap.size, 0, none⟩) 4 4) 4 (txs [mkS sellW, p, v, M]) := by rw [← hx7']; exact own_of_block (Nat.le_refl _) (heap_alloc_new _ _) (by unfold maxLen; simp [txs])
    have hB7 : Below x6.heap.size x6 x7 := by rw [← hx7']; exact (Below.refl _ _).alloc (Nat.le_refl _) _
    have HL7 : Hid (List.map toL [mkS sellW, p, v, M] = sellW :: toL p :: toL v :: man :: flatL (files.take 0)) := Lib.hid (by rw [← HM.out]; simp [toL_mkS, flatL])
    have Hown7 := Lib.hid hown7
    have HB7 := Lib.hid hB7
    have e3 := (hB7.cell (lt_of_heap Hra6.out)).trans e3
    obtain ⟨g7, hg7⟩ : ∃ g7, g7 = x6.heap.size := ⟨_, rfl⟩
    have Hown7 : Hid (x7.ownsRow x6.heap.size 9 1 (.slice (some ⟨g7, 0, none⟩) 4 4) 4 (txs [mkS sellW, p, v, M])) := by rw [hg7]; exact Hown7
    rw [← hg7]
    clear hx7 hx7' hown7 hB7 hg7 hcm
    go_wp2_with fail
    go_loopw [13, 14] (fun ov iv wr => TwRel x6 ⟨p, v, man, files⟩ ov iv wr) (fun _ iv _ => nf - (intOf iv).toNat)
    case atStart => exact ⟨0, [mkS sellW, p, v, M], by omega, rfl, HL7.out, rfl, Hown7.out, HB7.out⟩
    case round =>
      clear Hown7 HB7 HL7
      obtain ⟨j, L, hj, rfl, hL, hLl, hown, hB⟩ := hrel
      simp only at hj hL
      have HL := Lib.hid hL
      have Hown := Lib.hid hown
      have HB := Lib.hid hB
      have hrz := hB.size
      rw [← Hnf.out] at hj
      obtain ⟨Av, cv, rfl, _, _, _, _⟩ := own_form hown
      have HLl := Lib.hid hLl
      have hLb : L.length ≤ 2097156 := by omega
      have c3 : wr.cell? ⟨ra, 3, none⟩ = some (.slice AF nf cF) := (hB.cell (lt_of_heap Hra6.out)).trans He3.out
      clear hL hown hB hLl
      by_cases hlt : j < nf
      · have hjI : (j : Int) < nf := by omega
        have hjr : (0 : Int) ≤ j := by omega
        obtain ⟨bf, of_, Ai, ci, rfl, g1, g2, hbs⟩ := (Hf0.out.keep (Cells.of_below (HB6.out.trans (HB.out.mono HB6.out.size)))).at_ (i := j) (by rw [← Hnf.out]; exact hlt)
        have hqs := Hk4.out _ (List.mem_of_getElem? (fl_getD (ps := files) (i := j) (by rw [← Hnf.out]; exact hlt)))
        have Htk := Lib.hid (take_getD (ps := files) (i := j) (by rw [← Hnf.out]; exact hlt))
        generalize files.getD j noFl = q at *
        obtain ⟨q1, q2⟩ := q
        simp only at g1 g2 hbs hqs
        obtain ⟨hq1, hq2⟩ := hqs
        obtain ⟨M2, hM2⟩ : ∃ M2, M2 = (⟨q2.toArray⟩ : ByteArray) := ⟨_, rfl⟩
        have HM2 : Hid (toL M2 = q2) := Lib.hid (by rw [hM2]; rfl)
        have hcm2 : ∀ w', Bs w' Ai ci q2 → (convert 24 9 (.slice Ai q2.length ci)).run Tryd.prog w' = .ok (.string M2) w' := fun w' h => by rw [hM2]; exact str_of_bs h
        obtain ⟨n2, hn2⟩ : ∃ n2, n2 = q2.length := ⟨_, rfl⟩
        rw [← hn2] at hcm2 g2
        clear hM2 hn2
        go_wp2_with fail
        have d0 : wr.drew.cell? ⟨ra, 3, none⟩ = some (.slice (some ⟨bf, of_, none⟩) nf cF) := c3
        have d1 : wr.drew.cell? ⟨bf, of_ + j * 2, none⟩ = some (.string q1) := g1
        have d2 : wr.drew.cell? ⟨bf, of_ + j * 2 + 1, none⟩ = some (.slice Ai n2 ci) := g2
        have d3 : Bs wr.drew Ai ci q2 := hbs.keep fun _ _ h => h
        obtain ⟨iS, hiS, hzS, hsS, hbS⟩ := info_parts infoStr1
        clear g1 g2 hbs c3
        with_reducible refine g_mixx [(0, 1), (1, 0), (2, 0), (3, 1), (4, 0), (5, 0), (6, 0), (7, 0), (8, 0), (9, 1), (10, 0), (11, 0), (12, 0), (13, 0), (14, 2), (15, 3), (16, 1)] (fun w' => (w'.cell? ⟨ra, 3, none⟩ = some (.slice (some ⟨bf, of_, none⟩) nf cF) ∧ w'.cell? ⟨bf, of_ + j * 2, none⟩ = some (.string q1) ∧ w'.cell? ⟨bf, of_ + j * 2 + 1, none⟩ = some (.slice Ai n2 ci)) ∧ Bs w' Ai ci q2) 0 _ rfl (by kernel_rfl) (by kernel_rfl) ?_ ?_
        · exact ⟨⟨d0, d1, d2⟩, d3⟩
        intro OPS HD
        simp only [mixX, nthO, consX]
        iterate 1 ((with_reducible refine x_any (v := ?_) ?_ ?_); rotate_left; (rintro _; go_simp; first | done | rfl | (constructor <;> rfl)))
        iterate 2 ((with_reducible refine x_val (v := ?_) ?_ ?_ ?_); rotate_left; (rintro _ ⟨⟨h1, h2, h3⟩, h4⟩; go_simp; first | done | rfl | (constructor <;> rfl)); exact ⟨⟨d0, d1, d2⟩, d3⟩)
        iterate 1 ((with_reducible refine x_any (v := ?_) ?_ ?_); rotate_left; (rintro _; go_simp; first | done | rfl | (constructor <;> rfl)))
        iterate 5 ((with_reducible refine x_val (v := ?_) ?_ ?_ ?_); rotate_left; (rintro _ ⟨⟨h1, h2, h3⟩, h4⟩; go_simp; first | done | rfl | (constructor <;> rfl)); exact ⟨⟨d0, d1, d2⟩, d3⟩)
        iterate 1 ((with_reducible refine x_any (v := ?_) ?_ ?_); rotate_left; (rintro _; go_simp; first | done | rfl | (constructor <;> rfl)))
        iterate 3 ((with_reducible refine x_val (v := ?_) ?_ ?_ ?_); rotate_left; (rintro _ ⟨⟨h1, h2, h3⟩, h4⟩; go_simp; first | done | rfl | (constructor <;> rfl)); exact ⟨⟨d0, d1, d2⟩, d3⟩)
        refine x_val (v := .string M2) (fun wy hy => ?_) ⟨⟨d0, d1, d2⟩, d3⟩ ?_
        · have hq := hcm2 wy hy.2
          go_simp
        with_reducible refine x_one ?_
        iterate 1 (with_reducible refine l_val (v := ?_) (w' := ?_) ?_ ?_; rotate_left 2; (go_simp; first | done | rfl | (constructor <;> rfl)))
        refine x_keep ⟨⟨Cells.alloc _ _ _ _ d0, Cells.alloc _ _ _ _ d1, Cells.alloc _ _ _ _ d2⟩, d3.keep (Cells.alloc _ _)⟩ ?_
        with_reducible refine x_three ?_
        have Hoy : Hid (wr.drew.ownsRow x6.heap.size 9 1 (.slice Av L.length cv) L.length (txs L)) := Lib.hid (own_keep Hown.out fun _ _ hq => hq)
        have HBy : Hid (Below x6.heap.size x6 wr.drew) := Lib.hid ⟨HB.out.os, HB.out.tape, HB.out.output, HB.out.size, HB.out.block⟩
        have hyz := HBy.out.size
        refine wpList_append_own _ rfl (.tmp 176) (.tmp 190) 39 rfl x6.heap.size 9 iS (.string ByteArray.empty) 1 16 Tryd.underlying39 hiS hzS hsS hbS rfl (by omega) (.slice Av L.length cv) L.length (txs L) ?_ (Hoy.out.alloc _) ⟨wr.drew.heap.size, 0, none⟩ 2 2 [.string q1, .string M2] ?_ rfl (fun j v hv => World.news_of_block (w := wr.drew.alloc _) (heap_alloc_new wr.drew _) j v hv) (by intro u hu; simp only [List.mem_cons, List.not_mem_nil, or_false] at hu; rcases hu with rfl | rfl <;> rfl) (by unfold maxLen; omega) (by omega) (by simp; omega) ?_
        · simp [Act.eval, Act.put]
        · simp [Act.eval, Act.put]
        intro v1 wp hown1 hgrow1 _
        have hm : TwRel x6 ⟨p, v, man, files⟩ v1 (.int .i64 ((j : Int) + 1)) wp := by
          refine ⟨j + 1, L ++ [q1, M2], by simp only; rw [← Hnf.out]; omega, by go_num, ?_, by rw [List.length_append, HLl.out]; simp; omega, ?_, (HBy.out.alloc hyz _).grown hgrow1 (by simp; omega) (fun q hq => (own_blk Hoy.out q hq).1)⟩
          · simp only
            rw [List.map_append, HL.out, Htk.out, flatL_append]
            simp [flatL, HM2.out]
          · have e1 : (L ++ [q1, M2]).length = L.length + 2 := by simp
            have e2 : txs (L ++ [q1, M2]) = txs L ++ [.string q1, .string M2] := by simp [txs]
            rw [e1, e2]
            exact hown1
        have Hm := Lib.hid hm
        obtain ⟨Av1, cv1, rfl, _, _, _, _⟩ := own_form hown1
        clear hm hown1 hgrow1 d0 d1 d2 d3
        with_reducible refine x_last ?_
        iterate 1 ((with_reducible refine x_any (v := ?_) ?_ ?_); rotate_left; (rintro _; go_simp; first | done | rfl | (constructor <;> rfl)))
        with_reducible refine x_end ?_
        simp only [Act.put, List.setIfInBounds_toArray, List.set_cons_zero, List.set_cons_succ]
        clear HD
        go_wp2_with fail
        exact ⟨Hm.out, by simp [intOf]; omega⟩
      · have hjI : ¬ (j : Int) < nf := by omega
        have hjn : j = files.length := by rw [← Hnf.out]; omega
        have HLf : Hid (L.map toL = soldWords ⟨p, v, man, files⟩) := Lib.hid (by
          rw [HL.out, hjn, List.take_of_length_le (Nat.le_refl _)]
          rfl)
        obtain ⟨A9, c9, h9, hS9⟩ := row_sl Hown.out
        cases h9
        have HS9 := Lib.hid hS9
        have HB9 := Lib.hid (HB6.out.trans (HB.out.mono HB6.out.size))
        have HBr := HB
        have HLs : Hid (∀ x ∈ L, x.size ≤ 1048576) := Lib.hid fun x hx => by
          have h1 := soldWords_small Hd.out (toL x) (by have := List.mem_map_of_mem (f := toL) hx; rwa [HLf.out] at this)
          rwa [toL_len] at h1
        have hLn : L.length ≤ 100000 := by rw [HLl.out]; omega
        clear hS9 hjn hlt
        go_wp2_with fail
        clear c3
        refine (line_ref _ L _ _ HS9.out HLs.out hLn).mono ?_
        rintro e w5 ⟨rfl, hB5⟩
        rw [wrD_eq, HLf.out]
        have HB10 := Lib.hid (HBr.out.trans (hB5.mono HBr.out.size))
        obtain ⟨Q, hQ⟩ : ∃ Q, Q = mkS (joinB ((soldWords ⟨p, v, man, files⟩).map writeW)) := ⟨_, rfl⟩
        obtain ⟨sh, hsh⟩ : ∃ sh, sh = decide ((joinB ((soldWords ⟨p, v, man, files⟩).map writeW)).length ≤ 65536) := ⟨_, rfl⟩
        rw [← hQ, ← hsh]
        have HQ := Lib.hid hQ
        clear hB5 hQ hsh
        have Hra7 := Lib.hid ((HB10.out.block ra (lt_of_heap Hra6.out)).trans Hra6.out)
        have Hrt7 := Lib.hid ((HB10.out.block (ra + 1) (lt_of_heap Hrt6.out)).trans Hrt6.out)
        go_wp2_with ((with_reducible refine at_load 60 ?_); refine wpList_load_row rfl 60 _ rfl ra rfl 60 #[.string p, .string v, .slice A nm c, .slice AF nf cF] (0, 0) _ Hra7.out Tryd.underlying60 rfl sizeSold ?_)
        refine (formatSold_any _ _ ⟨p, v, man, files⟩ (HVb.out w5 (Cells.of_below (HB6.out.trans (HB10.out.mono HB6.out.size)))) Hd.out).mono ?_
        rintro e w6 ⟨rfl, hB6⟩
        rw [← HQ.out]
        have HB11 := Lib.hid (HB10.out.trans (hB6.mono HB10.out.size))
        have Hra8 := Lib.hid ((HB11.out.block ra (lt_of_heap Hra6.out)).trans Hra6.out)
        have Hrt8 := Lib.hid ((HB11.out.block (ra + 1) (lt_of_heap Hrt6.out)).trans Hrt6.out)
        have sq := str_eq Q Q
        rw [decide_eq_true rfl] at sq
        have t0 : w6.cell? ⟨ra + 1, 0, none⟩ = some (.int .i64 tn) := (blk_cells Hrt8.out).1 0
        clear hB6 Hra7 Hrt7
        go_wp2_with (go_at_call 11; refine (num_any _ _).mono ?_; rintro e w' ⟨rfl, rfl⟩)
        refine (itoa_call hn1 hn2 (Hw.out.below (HB6.out.trans (HB11.out.mono HB6.out.size)))).mono ?_
        rintro e w7 ⟨rfl, hB7⟩
        have HB12 := Lib.hid (HB11.out.trans (hB7.mono HB11.out.size))
        have Hra9 := Lib.hid ((HB12.out.block ra (lt_of_heap Hra6.out)).trans Hra6.out)
        have Hrt9 := Lib.hid ((HB12.out.block (ra + 1) (lt_of_heap Hrt6.out)).trans Hrt6.out)
        have hil := itoa_len hn1 hn2
        obtain ⟨IT, hIT⟩ : ∃ IT, IT = mkS (Lib.itoa tn) := ⟨_, rfl⟩
        have hITz : IT.size ≤ 20 := by rw [hIT, mkS_size]; exact hil
        rw [← hIT]
        have HIT := Lib.hid hIT
        have t0 : w7.cell? ⟨ra + 1, 0, none⟩ = some (.int .i64 tn) := (blk_cells Hrt9.out).1 0
        have t1 : w7.cell? ⟨ra + 1, 1, none⟩ = some (.bool ty) := (blk_cells Hrt9.out).1 1
        clear hB7 hil hIT Hra8 Hrt8
        have Hlw := Lib.hid (Hw.out.below (HB6.out.trans (HB12.out.mono HB6.out.size)))
        by_cases ht0 : tn = 0
        · subst ht0
          cases ty with
          | true =>
            have HT : mkS (toldW 0 true) = ⟨#[111, 107, 32, 121, 101, 115]⟩ := rfl
            go_wp2_with (first
              | (go_at_call 11; refine (num_any _ _).mono ?_; rintro e w' ⟨rfl, rfl⟩)
              | ((with_reducible refine at_load 62 ?_); refine wpList_load_row rfl 62 _ rfl (ra + 1) rfl 62 #[.int .i64 _, .bool _] (0, 0) _ Hrt9.out Tryd.underlying62 rfl sizeTold ?_))
            refine (formatTold_any _ _ _ ⟨hn1, hn2⟩ Hlw.out).mono ?_
            rintro e w8 ⟨rfl, hB8⟩
            have HB13 := Lib.hid (HB12.out.trans (hB8.mono HB12.out.size))
            have Hra10 := Lib.hid ((HB13.out.block ra (lt_of_heap Hra6.out)).trans Hra6.out)
            clear hB8 t0 t1 Hra9 Hrt9
            rw [HT]
            have st := str_eq (⟨#[111, 107, 32, 121, 101, 115]⟩ : ByteArray) ⟨#[111, 107, 32, 121, 101, 115]⟩
            rw [decide_eq_true rfl] at st
            by_cases hz : (65536 : Int) < Q.size
            · go_wp2_with fail
              go_ret
              exact ⟨rfl, HB6.out.trans (HB13.out.mono HB6.out.size)⟩
            have HSk := Lib.hid (sold_back (d := ⟨p, v, man, files⟩) (by have := hz; rw [HQ.out, mkS_size] at this; omega))
            have hzn : Q.size ≤ 1048576 := by omega
            go_wp2_with fail
            refine (parseSold_any Q hzn w8).mono ?_
            rintro e x9 ⟨U, dd, rfl, hU, hB9, hz0, hz1⟩
            have hse : soldErr (toL Q) = 0 := by rw [HQ.out, toL_mkS]; exact HSk.out.1
            rw [hse] at hz0 ⊢
            obtain ⟨D, hD, hdd⟩ := hz0 rfl
            rw [HSk.out.2 D (by rw [hD, HQ.out, toL_mkS])] at hdd
            subst hdd
            obtain ⟨Ab, cb, AFb, cFb, rfl, hmb, hfb⟩ := hU
            simp only [sV] at hmb hfb ⊢
            rw [← Hnm.out, ← Hnf.out]
            have HB14 := Lib.hid (HB13.out.trans (hB9.mono HB13.out.size))
            have HB15 := Lib.hid (HB14.out.alloc HB14.out.size (.cells #[.string p, .string v, .slice Ab nm cb, .slice AFb nf cFb] 60))
            have Hru11 : Hid ((x9.alloc (.cells #[.string p, .string v, .slice Ab nm cb, .slice AFb nf cFb] 60)).heap[x9.heap.size]? = some (.cells #[.string p, .string v, .slice Ab nm cb, .slice AFb nf cFb] 60 (0, 0))) := Lib.hid (heap_alloc_new _ _)
            have Hmb := Lib.hid (hmb.keep (Cells.alloc x9 (.cells #[.string p, .string v, .slice Ab nm cb, .slice AFb nf cFb] 60)))
            have Hfb := Lib.hid (hfb.keep (Cells.alloc x9 (.cells #[.string p, .string v, .slice Ab nm cb, .slice AFb nf cFb] 60)))
            clear hB9 hmb hfb hse hz0 hz1 hD
            go_wp2_with ((with_reducible refine at_store 60 ?_); refine wpList_store_new rfl 60 _ _ rfl x9.heap.size rfl #[.string p, .string v, .slice Ab nm cb, .slice AFb nf cFb] (sV ⟨#[]⟩ ⟨#[]⟩ nilV nilV).toArray 60 rfl rfl sizeSold rfl (sV_one (p := p) (v := v) (mv := .slice Ab nm cb) (fv := .slice AFb nf cFb) rfl rfl) ?_)
            generalize (x9.alloc (.cells #[.string p, .string v, .slice Ab nm cb, .slice AFb nf cFb] 60)) = y at *
            obtain ⟨rb, hrb⟩ : ∃ rb, rb = x9.heap.size := ⟨_, rfl⟩
            rw [← hrb] at Hru11 ⊢
            have hray := (HB15.out.block ra (lt_of_heap Hra6.out)).trans Hra6.out
            have HBz := Lib.hid (HB6.out.trans (HB15.out.mono HB6.out.size))
            obtain ⟨y0, y1, y2, y3⟩ := row4 Hru11.out
            obtain ⟨z0, z1, z2, z3⟩ := row4 hray
            have hsb : Calls Tryd.prog 30 #[.slice Ab nm cb, .slice A nm c] y fun e w' => e = .returned (.bool true) ∧ ∃ n, w' = y.drewN n := by
              have h := same_any man man Ab A cb c y Hmb.out (Hm0.out.keep (Cells.of_below HBz.out))
              rw [← Hnm.out, beq_self_eq_true] at h
              exact h
            have hsf : ∀ n, Calls Tryd.prog 31 #[.slice AFb nf cFb, .slice AF nf cF] (y.drewN n) fun e w' => e = .returned (.bool true) ∧ ∃ m, w' = (y.drewN n).drewN m := fun n => by
              have h := samef_any files files AFb AF cFb cF (y.drewN n) (Hfb.out.keep fun _ _ h => h) ((Hf0.out.keep (Cells.of_below HBz.out)).keep fun _ _ h => h)
              rw [← Hnf.out, decide_eq_true rfl] at h
              exact h
            have Hsb := Lib.hid hsb
            have Hsf := Lib.hid hsf
            have sp := str_eq p p
            have sv := str_eq v v
            rw [decide_eq_true rfl] at sp sv
            clear hray hsb hsf hrb
            refine (num_any _ _).mono ?_
            rintro e w' ⟨rfl, rfl⟩
            go_wp2_with (first
              | (go_at_call 30; refine Hsb.out.mono ?_; rintro e w' ⟨rfl, nb, rfl⟩)
              | (go_at_call 31; refine (Hsf.out _).mono ?_; rintro e w' ⟨rfl, nc, rfl⟩))
            go_ret
            exact ⟨rfl, below_drewN HBz.out _⟩
          | false =>
            have HT : mkS (toldW 0 false) = ⟨#[111, 107]⟩ := rfl
            go_wp2_with (first
              | (go_at_call 11; refine (num_any _ _).mono ?_; rintro e w' ⟨rfl, rfl⟩)
              | ((with_reducible refine at_load 62 ?_); refine wpList_load_row rfl 62 _ rfl (ra + 1) rfl 62 #[.int .i64 _, .bool _] (0, 0) _ Hrt9.out Tryd.underlying62 rfl sizeTold ?_))
            refine (formatTold_any _ _ _ ⟨hn1, hn2⟩ Hlw.out).mono ?_
            rintro e w8 ⟨rfl, hB8⟩
            have HB13 := Lib.hid (HB12.out.trans (hB8.mono HB12.out.size))
            have Hra10 := Lib.hid ((HB13.out.block ra (lt_of_heap Hra6.out)).trans Hra6.out)
            clear hB8 t0 t1 Hra9 Hrt9
            rw [HT]
            have st := str_eq (⟨#[111, 107]⟩ : ByteArray) ⟨#[111, 107]⟩
            rw [decide_eq_true rfl] at st
            by_cases hz : (65536 : Int) < Q.size
            · go_wp2_with fail
              go_ret
              exact ⟨rfl, HB6.out.trans (HB13.out.mono HB6.out.size)⟩
            have HSk := Lib.hid (sold_back (d := ⟨p, v, man, files⟩) (by have := hz; rw [HQ.out, mkS_size] at this; omega))
            have hzn : Q.size ≤ 1048576 := by omega
            go_wp2_with fail
            refine (parseSold_any Q hzn w8).mono ?_
            rintro e x9 ⟨U, dd, rfl, hU, hB9, hz0, hz1⟩
            have hse : soldErr (toL Q) = 0 := by rw [HQ.out, toL_mkS]; exact HSk.out.1
            rw [hse] at hz0 ⊢
            obtain ⟨D, hD, hdd⟩ := hz0 rfl
            rw [HSk.out.2 D (by rw [hD, HQ.out, toL_mkS])] at hdd
            subst hdd
            obtain ⟨Ab, cb, AFb, cFb, rfl, hmb, hfb⟩ := hU
            simp only [sV] at hmb hfb ⊢
            rw [← Hnm.out, ← Hnf.out]
            have HB14 := Lib.hid (HB13.out.trans (hB9.mono HB13.out.size))
            have HB15 := Lib.hid (HB14.out.alloc HB14.out.size (.cells #[.string p, .string v, .slice Ab nm cb, .slice AFb nf cFb] 60))
            have Hru11 : Hid ((x9.alloc (.cells #[.string p, .string v, .slice Ab nm cb, .slice AFb nf cFb] 60)).heap[x9.heap.size]? = some (.cells #[.string p, .string v, .slice Ab nm cb, .slice AFb nf cFb] 60 (0, 0))) := Lib.hid (heap_alloc_new _ _)
            have Hmb := Lib.hid (hmb.keep (Cells.alloc x9 (.cells #[.string p, .string v, .slice Ab nm cb, .slice AFb nf cFb] 60)))
            have Hfb := Lib.hid (hfb.keep (Cells.alloc x9 (.cells #[.string p, .string v, .slice Ab nm cb, .slice AFb nf cFb] 60)))
            clear hB9 hmb hfb hse hz0 hz1 hD
            go_wp2_with ((with_reducible refine at_store 60 ?_); refine wpList_store_new rfl 60 _ _ rfl x9.heap.size rfl #[.string p, .string v, .slice Ab nm cb, .slice AFb nf cFb] (sV ⟨#[]⟩ ⟨#[]⟩ nilV nilV).toArray 60 rfl rfl sizeSold rfl (sV_one (p := p) (v := v) (mv := .slice Ab nm cb) (fv := .slice AFb nf cFb) rfl rfl) ?_)
            generalize (x9.alloc (.cells #[.string p, .string v, .slice Ab nm cb, .slice AFb nf cFb] 60)) = y at *
            obtain ⟨rb, hrb⟩ : ∃ rb, rb = x9.heap.size := ⟨_, rfl⟩
            rw [← hrb] at Hru11 ⊢
            have hray := (HB15.out.block ra (lt_of_heap Hra6.out)).trans Hra6.out
            have HBz := Lib.hid (HB6.out.trans (HB15.out.mono HB6.out.size))
            obtain ⟨y0, y1, y2, y3⟩ := row4 Hru11.out
            obtain ⟨z0, z1, z2, z3⟩ := row4 hray
            have hsb : Calls Tryd.prog 30 #[.slice Ab nm cb, .slice A nm c] y fun e w' => e = .returned (.bool true) ∧ ∃ n, w' = y.drewN n := by
              have h := same_any man man Ab A cb c y Hmb.out (Hm0.out.keep (Cells.of_below HBz.out))
              rw [← Hnm.out, beq_self_eq_true] at h
              exact h
            have hsf : ∀ n, Calls Tryd.prog 31 #[.slice AFb nf cFb, .slice AF nf cF] (y.drewN n) fun e w' => e = .returned (.bool true) ∧ ∃ m, w' = (y.drewN n).drewN m := fun n => by
              have h := samef_any files files AFb AF cFb cF (y.drewN n) (Hfb.out.keep fun _ _ h => h) ((Hf0.out.keep (Cells.of_below HBz.out)).keep fun _ _ h => h)
              rw [← Hnf.out, decide_eq_true rfl] at h
              exact h
            have Hsb := Lib.hid hsb
            have Hsf := Lib.hid hsf
            have sp := str_eq p p
            have sv := str_eq v v
            rw [decide_eq_true rfl] at sp sv
            clear hray hsb hsf hrb
            refine (num_any _ _).mono ?_
            rintro e w' ⟨rfl, rfl⟩
            go_wp2_with (first
              | (go_at_call 30; refine Hsb.out.mono ?_; rintro e w' ⟨rfl, nb, rfl⟩)
              | (go_at_call 31; refine (Hsf.out _).mono ?_; rintro e w' ⟨rfl, nc, rfl⟩))
            go_ret
            exact ⟨rfl, below_drewN HBz.out _⟩
        · have hb0 : (tn == 0) = false := beq_eq_false_iff_ne.2 ht0
          have HT : Hid (mkS (toldW tn ty) = (⟨#[101, 114, 114, 32]⟩ : ByteArray) ++ IT) := Lib.hid (by
            apply toL_inj
            rw [HIT.out, toL_append, toL_mkS, toL_mkS]
            unfold toldW
            rw [if_pos ht0]
            rfl)
          clear ht0
          go_wp2_with (first
            | (go_at_call 11; refine (num_any _ _).mono ?_; rintro e w' ⟨rfl, rfl⟩)
            | ((with_reducible refine at_load 62 ?_); refine wpList_load_row rfl 62 _ rfl (ra + 1) rfl 62 #[.int .i64 _, .bool _] (0, 0) _ Hrt9.out Tryd.underlying62 rfl sizeTold ?_))
          refine (formatTold_any _ _ _ ⟨hn1, hn2⟩ Hlw.out).mono ?_
          rintro e w8 ⟨rfl, hB8⟩
          have HB13 := Lib.hid (HB12.out.trans (hB8.mono HB12.out.size))
          have Hra10 := Lib.hid ((HB13.out.block ra (lt_of_heap Hra6.out)).trans Hra6.out)
          clear hB8 t0 t1 Hra9 Hrt9
          rw [HT.out]
          have st := str_eq ((⟨#[101, 114, 114, 32]⟩ : ByteArray) ++ IT) ((⟨#[101, 114, 114, 32]⟩ : ByteArray) ++ IT)
          rw [decide_eq_true rfl] at st
          by_cases hz : (65536 : Int) < Q.size
          · go_wp2_with fail
            go_ret
            exact ⟨rfl, HB6.out.trans (HB13.out.mono HB6.out.size)⟩
          have HSk := Lib.hid (sold_back (d := ⟨p, v, man, files⟩) (by have := hz; rw [HQ.out, mkS_size] at this; omega))
          have hzn : Q.size ≤ 1048576 := by omega
          go_wp2_with fail
          refine (parseSold_any Q hzn w8).mono ?_
          rintro e x9 ⟨U, dd, rfl, hU, hB9, hz0, hz1⟩
          have hse : soldErr (toL Q) = 0 := by rw [HQ.out, toL_mkS]; exact HSk.out.1
          rw [hse] at hz0 ⊢
          obtain ⟨D, hD, hdd⟩ := hz0 rfl
          rw [HSk.out.2 D (by rw [hD, HQ.out, toL_mkS])] at hdd
          subst hdd
          obtain ⟨Ab, cb, AFb, cFb, rfl, hmb, hfb⟩ := hU
          simp only [sV] at hmb hfb ⊢
          rw [← Hnm.out, ← Hnf.out]
          have HB14 := Lib.hid (HB13.out.trans (hB9.mono HB13.out.size))
          have HB15 := Lib.hid (HB14.out.alloc HB14.out.size (.cells #[.string p, .string v, .slice Ab nm cb, .slice AFb nf cFb] 60))
          have Hru11 : Hid ((x9.alloc (.cells #[.string p, .string v, .slice Ab nm cb, .slice AFb nf cFb] 60)).heap[x9.heap.size]? = some (.cells #[.string p, .string v, .slice Ab nm cb, .slice AFb nf cFb] 60 (0, 0))) := Lib.hid (heap_alloc_new _ _)
          have Hmb := Lib.hid (hmb.keep (Cells.alloc x9 (.cells #[.string p, .string v, .slice Ab nm cb, .slice AFb nf cFb] 60)))
          have Hfb := Lib.hid (hfb.keep (Cells.alloc x9 (.cells #[.string p, .string v, .slice Ab nm cb, .slice AFb nf cFb] 60)))
          clear hB9 hmb hfb hse hz0 hz1 hD
          go_wp2_with ((with_reducible refine at_store 60 ?_); refine wpList_store_new rfl 60 _ _ rfl x9.heap.size rfl #[.string p, .string v, .slice Ab nm cb, .slice AFb nf cFb] (sV ⟨#[]⟩ ⟨#[]⟩ nilV nilV).toArray 60 rfl rfl sizeSold rfl (sV_one (p := p) (v := v) (mv := .slice Ab nm cb) (fv := .slice AFb nf cFb) rfl rfl) ?_)
          generalize (x9.alloc (.cells #[.string p, .string v, .slice Ab nm cb, .slice AFb nf cFb] 60)) = y at *
          obtain ⟨rb, hrb⟩ : ∃ rb, rb = x9.heap.size := ⟨_, rfl⟩
          rw [← hrb] at Hru11 ⊢
          have hray := (HB15.out.block ra (lt_of_heap Hra6.out)).trans Hra6.out
          have HBz := Lib.hid (HB6.out.trans (HB15.out.mono HB6.out.size))
          obtain ⟨y0, y1, y2, y3⟩ := row4 Hru11.out
          obtain ⟨z0, z1, z2, z3⟩ := row4 hray
          have hsb : Calls Tryd.prog 30 #[.slice Ab nm cb, .slice A nm c] y fun e w' => e = .returned (.bool true) ∧ ∃ n, w' = y.drewN n := by
            have h := same_any man man Ab A cb c y Hmb.out (Hm0.out.keep (Cells.of_below HBz.out))
            rw [← Hnm.out, beq_self_eq_true] at h
            exact h
          have hsf : ∀ n, Calls Tryd.prog 31 #[.slice AFb nf cFb, .slice AF nf cF] (y.drewN n) fun e w' => e = .returned (.bool true) ∧ ∃ m, w' = (y.drewN n).drewN m := fun n => by
            have h := samef_any files files AFb AF cFb cF (y.drewN n) (Hfb.out.keep fun _ _ h => h) ((Hf0.out.keep (Cells.of_below HBz.out)).keep fun _ _ h => h)
            rw [← Hnf.out, decide_eq_true rfl] at h
            exact h
          have Hsb := Lib.hid hsb
          have Hsf := Lib.hid hsf
          have sp := str_eq p p
          have sv := str_eq v v
          rw [decide_eq_true rfl] at sp sv
          clear hray hsb hsf hrb
          refine (num_any _ _).mono ?_
          rintro e w' ⟨rfl, rfl⟩
          go_wp2_with (first
            | (go_at_call 30; refine Hsb.out.mono ?_; rintro e w' ⟨rfl, nb, rfl⟩)
            | (go_at_call 31; refine (Hsf.out _).mono ?_; rintro e w' ⟨rfl, nc, rfl⟩))
          go_ret
          exact ⟨rfl, below_drewN HBz.out _⟩
end Go.Proofs.YtbmnbhammganfaaDoor
