/-
  The reference's FormatOpts.
-/
import Derived.Test.YtlljjddgbilipaaGreatDoorTxOpr
namespace Go.Proofs.YtlljjddgbilipaaGreatDoor
open Go.RowKit Go.Maps

set_option linter.unusedSimpArgs false

attribute [local go_sem] lt1 lt2 lt3 lt4 lt5 lt6

theorem infoInt1r : (Tryz.prog.info? 3).map (fun i => (i.zero, i.size, i.bytes)) = some (some (.int .i64 0), 1, 8) := by kernel_rfl
/-- the check -/
def RfR1 (x0 : World) (d : OptD) (nv iv : Value) (wr : World) : Prop := ∃ j : Nat, j ≤ (numL d).length ∧ iv = .int .i64 (j : Nat) ∧ ((numL d).take j).all inN = true ∧ wr.ownsRow x0.heap.size 3 1 nv (numL d).length (iV (numL d)) ∧ Below x0.heap.size x0 wr
/-- the five -/
def RfR2 (x0 : World) (d : OptD) (nv wv iv : Value) (wr : World) : Prop := ∃ j : Nat, j ≤ 5 ∧ iv = .int .i64 (j : Nat) ∧ wr.ownsRow x0.heap.size 9 1 wv (rw1 d j).length (txs (rw1 d j)) ∧ wr.ownsRow x0.heap.size 3 1 nv (numL d).length (iV (numL d)) ∧ Below x0.heap.size x0 wr
/-- the sizes -/
def RfR4 (x0 : World) (d : OptD) (T : List ByteArray) (nv wv iv : Value) (wr : World) : Prop := ∃ j : Nat, j ≤ d.sizes.length ∧ iv = .int .i64 ((5 + j : Nat) : Int) ∧ wr.ownsRow x0.heap.size 9 1 wv (rw4 d T j).length (txs (rw4 d T j)) ∧ wr.ownsRow x0.heap.size 3 1 nv (numL d).length (iV (numL d)) ∧ Below x0.heap.size x0 wr
theorem own_int_at {w : World} {base : Nat} {v : Value} {l : List Int} (h : w.ownsRow base 3 1 v l.length (iV l)) {j : Nat} {n : Int} (hj : l[j]? = some n) : ∃ g c, v = .slice (some ⟨g, 0, none⟩) l.length c ∧ w.cell? ⟨g, j, none⟩ = some (.int .i64 n) := by
  obtain ⟨A, c, hv, hS⟩ := row_sl h
  have hlt := (List.getElem?_eq_some_iff.1 hj).1
  obtain ⟨b, o, n', hA, hn, hc⟩ := iV_at hS hlt
  rw [hj] at hn
  cases hn
  have hf := own_form h
  obtain ⟨A', c', hv', _, hz, _⟩ := hf
  rw [hv] at hv'
  cases hv'
  obtain ⟨g, hg⟩ := hz _ hA
  cases hg
  exact ⟨b, c, by rw [hv, hA], by rw [Nat.zero_add] at hc; exact hc⟩
theorem own_other {w w' : World} {base : Nat} {e e' : TypeId} {v v' : Value} {n n' : Nat} {xs xs' : List Value} (h : w.ownsRow base e 1 v n xs) (h' : w.ownsRow base e' 1 v' n' xs') (hne : e ≠ e') (hg : w.grownBy w' v'.ownBlock) : w'.ownsRow base e 1 v n xs := own_keep h fun q c hq => by
  refine (hg.block q (lt_of_heap hq) (fun hh => ?_)).trans hq
  obtain ⟨_, cur, hcur⟩ := own_blk h' q hh.symm
  rw [hcur] at hq
  cases hq
  exact hne rfl
set_option maxRecDepth 100000 in
set_option maxHeartbeats 8000000 in
theorem rformatOpts_any (w : World) (hw : Lw w) (V : Array Value) (d : OptD) (hV : RoBox w V d) (hok : OptOk d) (hf1 : d.tags.length ≤ 100) (hf2 : d.sizes.length ≤ 100) : Calls Tryz.prog 9 #[.agg V] w fun e w' => e = .returned (.tuple #[.string (mkS (formatO d).1), .int .i64 (formatO d).2]) ∧ Below w.heap.size w w' := by
  obtain ⟨A1, A2, c1, c2, T, rfl, hs1, hs2, hT⟩ := hV
  have H1 := Lib.hid hs1
  have H2 := Lib.hid hs2
  have HT := Lib.hid hT
  have Hok := Lib.hid hok
  obtain ⟨n1, hn1⟩ : ∃ n, n = d.sizes.length := ⟨_, rfl⟩
  obtain ⟨n2, hn2⟩ : ∃ n, n = T.length := ⟨_, rfl⟩
  rw [← hn1, ← hn2]
  have Hn := Lib.hid (And.intro hn1 hn2)
  have hn1z : n1 ≤ 100 := by omega
  have hn2t : n2 = d.tags.length := by rw [hn2, ← hT, List.length_map]
  have hn2z : n2 ≤ 100 := by omega
  have Hn2t := Lib.hid hn2t
  clear hs1 hs2 hT hok hn1 hn2 hn2t hf1 hf2
  obtain ⟨q1, hq1⟩ : ∃ n, n = d.quota := ⟨_, rfl⟩
  obtain ⟨q2, hq2⟩ : ∃ n, n = d.workers := ⟨_, rfl⟩
  obtain ⟨q3, hq3⟩ : ∃ n, n = d.tries := ⟨_, rfl⟩
  obtain ⟨q4, hq4⟩ : ∃ n, n = d.patience := ⟨_, rfl⟩
  obtain ⟨q5, hq5⟩ : ∃ n, n = d.budget := ⟨_, rfl⟩
  obtain ⟨bp, hbp⟩ : ∃ n, n = mkS d.bypass := ⟨_, rfl⟩
  obtain ⟨nm, hnm⟩ : ∃ n, n = mkS d.name := ⟨_, rfl⟩
  obtain ⟨sc, hsc⟩ : ∃ n, n = mkS d.secret := ⟨_, rfl⟩
  obtain ⟨off, hoff⟩ : ∃ n, n = d.offline := ⟨_, rfl⟩
  rw [← hq1, ← hq2, ← hq3, ← hq4, ← hq5, ← hbp, ← hnm, ← hsc, ← hoff]
  have Hnl : Hid (iV [q1, q2, q3, q4, q5] ++ iV d.sizes = iV (numL d) ∧ 5 + n1 = (numL d).length) := Lib.hid ⟨by rw [hq1, hq2, hq3, hq4, hq5]; simp [numL, nums, iV], by rw [numL_len, Hn.out.1]⟩
  have Hs := Lib.hid (And.intro hbp (And.intro hnm (And.intro hsc hoff)))
  have Hw := Lib.hid hw
  have h64 : Hid (∀ (j : Nat) (n : Int), (numL d)[j]? = some n → In64 n) := Lib.hid (fun j n hj => by
    have hm := List.mem_of_getElem? hj
    unfold numL nums at hm
    simp only [List.mem_append, List.mem_cons, List.not_mem_nil, or_false] at hm
    rcases hm with (rfl | rfl | rfl | rfl | rfl) | hm
    · exact Hok.out.quota
    · exact Hok.out.workers
    · exact Hok.out.tries
    · exact Hok.out.patience
    · exact Hok.out.budget
    · exact Hok.out.sizes n hm)
  clear hq1 hq2 hq3 hq4 hq5 hbp hnm hsc hoff hw
  obtain ⟨iI, hiI, hzI, hsI, hbI⟩ := info_parts infoInt1r
  obtain ⟨iS, hiS, hzS, hsS, hbS⟩ := info_parts infoStr1
  unfold ropV
  go_enter Tryz.func9, Tryz.ntmps9
  obtain ⟨x0, hx0⟩ : ∃ x0, x0 = w.alloc (.cells #[.int .i64 q1, .int .i64 q2, .int .i64 q3, .int .i64 q4, .int .i64 q5, .bool off, .string bp, .string nm, .string sc, .slice A2 n2 c2, .slice A1 n1 c1] 39) := ⟨_, rfl⟩
  have hr0 : x0.heap[w.heap.size]? = some (.cells #[.int .i64 q1, .int .i64 q2, .int .i64 q3, .int .i64 q4, .int .i64 q5, .bool off, .string bp, .string nm, .string sc, .slice A2 n2 c2, .slice A1 n1 c1] 39 (0, 0)) := by rw [hx0]; exact heap_alloc_new _ _
  have hB0 : Below w.heap.size w x0 := by rw [hx0]; exact (Below.refl _ _).alloc (Nat.le_refl _) _
  have hz0 : x0.heap.size = w.heap.size + 1 := by rw [hx0]; simp
  have H10 := Lib.hid (H1.out.keep (Cells.of_below hB0))
  have H20 := Lib.hid (H2.out.keep (Cells.of_below hB0))
  have Hw0 := Lib.hid (Hw.out.below hB0)
  have HB0 := Lib.hid hB0
  have Hr0 := Lib.hid hr0
  have hrl := lt_of_heap hr0
  have ho5 : (x0.alloc (.cells #[.int .i64 q1, .int .i64 q2, .int .i64 q3, .int .i64 q4, .int .i64 q5] 3)).ownsRow x0.heap.size 3 1 (.slice (some ⟨w.heap.size + 1, 0, none⟩) 5 5) 5 (iV [q1, q2, q3, q4, q5]) := own_of_block (g := w.heap.size + 1) (xs := iV [q1, q2, q3, q4, q5]) (by omega) (by rw [← hz0]; exact heap_alloc_new _ _) (by simp [iV, maxLen])
  have Ho5 := Lib.hid ho5
  clear hB0 hr0 ho5 H1 H2 Hw
  have hS1 := H10.out
  rw [← Hn.out.1] at hS1
  have HS1 := Lib.hid hS1
  have HSa : Hid (Sl (x0.alloc (.cells #[.int .i64 q1, .int .i64 q2, .int .i64 q3, .int .i64 q4, .int .i64 q5] 3)) A1 c1 n1 1 (iV d.sizes)) := Lib.hid (hS1.keep (Cells.alloc _ _))
  have hwa : (w.alloc (.cells #[.int .i64 q1, .int .i64 q2, .int .i64 q3, .int .i64 q4, .int .i64 q5, .bool off, .string bp, .string nm, .string sc, .slice A2 n2 c2, .slice A1 n1 c1] 39)) = x0 := hx0.symm
  have Hwa := Lib.hid hwa
  clear hS1 hx0 hwa hz0
  go_wp2_with (at_builtin; rw [Hwa.out]; refine append_any _ rfl (.tmp 22) (.tmp 24) 22 rfl x0.heap.size 3 iI (.int .i64 0) 8 Tryz.underlying22 hiI hzI hsI hbI rfl (.slice (some ⟨w.heap.size + 1, 0, none⟩) 5 5) 5 (iV [q1, q2, q3, q4, q5]) rfl Ho5.out A1 n1 c1 (iV d.sizes) rfl HSa.out (iV_one _) (by unfold maxLen; omega) (by omega) (by simp) ?_)
  intro nv x1 hownN hgrowN
  rw [Hnl.out.1, Hnl.out.2] at hownN
  have hB1 : Below x0.heap.size x0 x1 := ((Below.refl x0.heap.size x0).alloc (Nat.le_refl _) _).grown hgrowN (by simp) (fun q hq => (own_blk Ho5.out q hq).1)
  obtain ⟨nn, hnn⟩ : ∃ nn, nn = (numL d).length := ⟨_, rfl⟩
  have hnn5 : 5 + n1 = nn := by rw [hnn]; exact Hnl.out.2
  obtain ⟨g, cn, hnv, _⟩ := own_int_at hownN (j := 0) (n := (numL d).getD 0 0) (by rw [List.getD_eq_getElem?_getD, List.getElem?_eq_getElem (by omega)]; rfl)
  subst hnv
  rw [← hnn] at hownN ⊢
  have Hnn := Lib.hid hnn
  have HN1 := Lib.hid hownN
  have HB1 := Lib.hid hB1
  clear hownN hgrowN hB1 Ho5 HSa HS1 hnn
  have Hni : Hid (∀ (j : Nat), j < nn → ∃ n, (numL d)[j]? = some n ∧ In64 n ∧ ∀ y : World, y.ownsRow x0.heap.size 3 1 (.slice (some ⟨g, 0, none⟩) nn cn) nn (iV (numL d)) → y.cell? ⟨g, j, none⟩ = some (.int .i64 n)) := Lib.hid (fun j hj => by
    have hj' : j < (numL d).length := by rw [← Hnn.out]; exact hj
    refine ⟨(numL d)[j], List.getElem?_eq_getElem hj', h64.out j _ (List.getElem?_eq_getElem hj'), fun y hy => own_cell hy ?_⟩
    simp [iV, hj'])
  clear h64
  go_wp2_with fail
  go_loopw [6] (fun iv wr => RfR1 x0 d (.slice (some ⟨g, 0, none⟩) nn cn) iv wr) (fun iv _ => nn - (intOf iv).toNat)
  case atStart => exact ⟨0, by omega, rfl, rfl, by rw [← Hnn.out]; exact HN1.out, HB1.out⟩
  case round =>
    clear HN1 HB1
    obtain ⟨j, hj, rfl, hall, hown, hB⟩ := hrel
    rw [← Hnn.out] at hj hown
    have Hall := Lib.hid hall
    have HN := Lib.hid hown
    have HB := Lib.hid hB
    clear hall hown hB
    by_cases hlt : j < nn
    · obtain ⟨n, hn, hn64, hcn⟩ := Hni.out j hlt
      have cn1 := hcn wr HN.out
      have hjI : (j : Int) < nn := by omega
      have hjr : (0 : Int) ≤ j := by omega
      have Hnj := Lib.hid hn
      clear hn hcn
      obtain ⟨hn0, hn1'⟩ := hn64
      by_cases hgt : (4611686018427387904 : Int) < n
      · have HF : Hid (formatO d = ([], 6)) := Lib.hid (by
          have h : optOk d = false := by
            rw [← numL_all, List.all_eq_false]
            exact ⟨n, List.mem_of_getElem? Hnj.out, by unfold inN; simp; omega⟩
          unfold formatO
          rw [if_neg (by rw [h]; decide)])
        have HBf := Lib.hid (HB0.out.trans (HB.out.mono HB0.out.size))
        go_wp2_with fail
        exact bodyPost_ret (results_tmp2 rfl _ _ _) rfl ⟨by rw [HF.out]; rfl, HBf.out⟩
      · by_cases hls : n < (-4611686018427387904 : Int)
        · have HF : Hid (formatO d = ([], 6)) := Lib.hid (by
            have h : optOk d = false := by
              rw [← numL_all, List.all_eq_false]
              exact ⟨n, List.mem_of_getElem? Hnj.out, by unfold inN; simp; omega⟩
            unfold formatO
            rw [if_neg (by rw [h]; decide)])
          have HBf := Lib.hid (HB0.out.trans (HB.out.mono HB0.out.size))
          go_wp2_with fail
          exact bodyPost_ret (results_tmp2 rfl _ _ _) rfl ⟨by rw [HF.out]; rfl, HBf.out⟩
        · have Hm : Hid (RfR1 x0 d (.slice (some ⟨g, 0, none⟩) nn cn) (.int .i64 ((j : Int) + 1)) wr) := Lib.hid ⟨j + 1, by rw [← Hnn.out]; omega, by go_num, by rw [all_next Hnj.out, Hall.out]; unfold inN; simp; omega, by rw [← Hnn.out]; exact HN.out, HB.out⟩
          clear HN HB
          go_wp2_with fail
          exact ⟨Hm.out, by simp [intOf]; omega⟩
    · have hjn : j = (numL d).length := by rw [← Hnn.out]; omega
      have Hfo : Hid (formatO d = limP ((optWords d).map writeW)) := Lib.hid (by
        have h := Hall.out
        rw [hjn, List.take_of_length_le (Nat.le_refl _), numL_all] at h
        unfold formatO
        rw [if_pos h])
      have hjI : ¬ (j : Int) < nn := by omega
      have ho1 : (wr.alloc (.cells #[.string ⟨#[115, 116, 111, 114, 121]⟩] 9)).ownsRow x0.heap.size 9 1 (.slice (some ⟨wr.heap.size, 0, none⟩) 1 1) (rw1 d 0).length (txs (rw1 d 0)) := own_of_block (xs := txs (rw1 d 0)) HB.out.size (heap_alloc_new _ _) (by simp [txs, rw1, maxLen])
      have HN2 := Lib.hid (HN.out.alloc (.cells #[.string ⟨#[115, 116, 111, 114, 121]⟩] 9))
      have HB2 := Lib.hid (HB.out.alloc HB.out.size (.cells #[.string ⟨#[115, 116, 111, 114, 121]⟩] 9))
      have Ho1 := Lib.hid ho1
      clear ho1 Hall hjn HN HB hlt
      go_wp2_with fail
      generalize (wr.alloc (.cells #[.string ⟨#[115, 116, 111, 114, 121]⟩] 9)) = x2 at *
      generalize (Value.slice (some ⟨wr.heap.size, 0, none⟩) 1 1) = wv0 at *
      go_loopw [7, 8] (fun wv iv wr => RfR2 x0 d (.slice (some ⟨g, 0, none⟩) nn cn) wv iv wr) (fun _ iv _ => 5 - (intOf iv).toNat)
      case atStart => exact ⟨0, by omega, rfl, Ho1.out, by rw [← Hnn.out]; exact HN2.out, HB2.out⟩
      case round =>
        clear Ho1 HN2 HB2 hj hjI
        obtain ⟨j, hj, rfl, howw, hown, hB⟩ := hrel
        rw [← Hnn.out] at hown
        have HW := Lib.hid howw
        have HN := Lib.hid hown
        have HB := Lib.hid hB
        clear howw hown hB
        by_cases hlt : j < 5
        · obtain ⟨n, hn, hn64, hcn⟩ := Hni.out j (by omega)
          have cn1 := hcn wr HN.out
          have hjI : (j : Int) < 5 := by omega
          have hjn : (j : Int) < nn := by omega
          have hjr : (0 : Int) ≤ j := by omega
          have Hnj := Lib.hid (rw1_next d (j := j) (n := n) (by rw [← numL_low d hlt]; exact hn))
          have Hwl := Lib.hid (rw1_len d hj)
          have hwx := HW.out
          obtain ⟨Aw, cw, rfl, -, -, -, -⟩ := own_form hwx
          clear hn hcn hwx
          go_wp2_with fail
          refine (itoa_call hn64.1 hn64.2 (Hw0.out.below HB.out)).mono ?_
          rintro e y ⟨rfl, hBy⟩
          have hBy2 := HB.out.trans (hBy.mono HB.out.size)
          have HWy := Lib.hid ((own_keep HW.out fun q c hq => (hBy.block q (lt_of_heap hq)).trans hq).alloc (.cells #[.string (mkS (Lib.itoa n))] 9))
          have HNy := Lib.hid ((own_keep HN.out fun q c hq => (hBy.block q (lt_of_heap hq)).trans hq).alloc (.cells #[.string (mkS (Lib.itoa n))] 9))
          have HBy := Lib.hid (hBy2.alloc hBy2.size (.cells #[.string (mkS (Lib.itoa n))] 9))
          have hyz := HBy.out.size
          clear HW HN HB hBy hBy2
          go_wp2_with (at_builtin; refine wpList_append_own _ rfl (.tmp 52) (.tmp 58) 25 rfl x0.heap.size 9 iS (.string ByteArray.empty) 1 16 Tryz.underlying25 hiS hzS hsS hbS rfl (by omega) (.slice Aw (rw1 d j).length cw) (rw1 d j).length (txs (rw1 d j)) rfl HWy.out ⟨y.heap.size, 0, none⟩ 1 1 [.string (mkS (Lib.itoa n))] rfl rfl (fun j v hv => World.news_of_block (w := y.alloc _) (heap_alloc_new y _) j v hv) (by intro u hu; rw [List.mem_singleton.1 hu]; rfl) (by rw [Hwl.out]; unfold maxLen; omega) (by rw [Hwl.out]; omega) hyz ?_)
          intro v1 wp hown1 hgrow1 _
          have Hm : Hid (RfR2 x0 d (.slice (some ⟨g, 0, none⟩) nn cn) v1 (.int .i64 ((j : Int) + 1)) wp) := Lib.hid ⟨j + 1, by omega, by go_num, by rw [Hnj.out, List.length_append, show txs (rw1 d j ++ [sI n]) = txs (rw1 d j) ++ [.string (mkS (Lib.itoa n))] by simp [txs, sI]]; exact hown1, by rw [← Hnn.out]; exact own_other HNy.out HWy.out (by decide) hgrow1, HBy.out.grown hgrow1 hyz (fun q hq => (own_blk HWy.out q hq).1)⟩
          clear hown1 hgrow1 HWy HNy HBy
          go_wp2_with fail
          exact ⟨Hm.out, by simp [intOf]; omega⟩
        · have hj5 : j = 5 := by omega
          subst hj5
          have hwx := HW.out
          obtain ⟨Aw, cw, rfl, -, -, -, -⟩ := own_form hwx
          have Hwl := Lib.hid (rw1_len d (j := 5) (by omega))
          have c5 : wr.cell? ⟨w.heap.size, 5, none⟩ = some (.bool off) := (HB.out.cell hrl).trans ((blk_cells Hr0.out).1 5)
          clear hwx hlt hj
          rcases Bool.eq_false_or_eq_true off with hof | hof
          · subst hof
            have Hof : Hid (sI (offN d) = ⟨#[49]⟩) := Lib.hid (by unfold offN; rw [← Hs.out.2.2.2]; simp [sI, itoa01.1, itoa01.2]; rfl)
            have HWy := Lib.hid (HW.out.alloc (.cells #[.string ⟨#[49]⟩] 9))
            have HNy := Lib.hid (HN.out.alloc (.cells #[.string ⟨#[49]⟩] 9))
            have HBy := Lib.hid (HB.out.alloc HB.out.size (.cells #[.string ⟨#[49]⟩] 9))
            have hyz := HBy.out.size
            clear HW HN HB
            go_wp2_with (at_builtin; refine wpList_append_own _ rfl (.tmp 62) (.tmp 63) 25 rfl x0.heap.size 9 iS (.string ByteArray.empty) 1 16 Tryz.underlying25 hiS hzS hsS hbS rfl (by omega) (.slice Aw (rw1 d 5).length cw) (rw1 d 5).length (txs (rw1 d 5)) rfl HWy.out ⟨wr.heap.size, 0, none⟩ 1 1 [.string ⟨#[49]⟩] rfl rfl (fun j v hv => World.news_of_block (w := wr.alloc _) (heap_alloc_new wr _) j v hv) (by intro u hu; rw [List.mem_singleton.1 hu]; rfl) (by rw [Hwl.out]; unfold maxLen; omega) (by rw [Hwl.out]; omega) hyz ?_)
            intro v3 x3 hown3 hgrow3 _
            have hN3 := own_other HNy.out HWy.out (by decide) hgrow3
            have hB3 := HBy.out.grown hgrow3 hyz (fun q hq => (own_blk HWy.out q hq).1)
            rw [show (rw1 d 5).length + 1 = (rw1 d 5 ++ [sI (offN d)]).length by simp, show txs (rw1 d 5) ++ [.string ⟨#[49]⟩] = txs (rw1 d 5 ++ [sI (offN d)]) by rw [Hof.out]; simp [txs]] at hown3
            obtain ⟨A3, cw3, rfl, -, -, -, -⟩ := own_form hown3
            have HW3 := Lib.hid (own_keep (w' := x3.drew) hown3 fun q c hq => hq)
            have HN3 := Lib.hid (own_keep (w' := x3.drew) hN3 fun q c hq => hq)
            have HB3 : Hid (Below x0.heap.size x0 x3.drew) := Lib.hid ⟨hB3.os, hB3.tape, hB3.output, hB3.size, hB3.block⟩
            have hcell : ∀ (i : Nat) (u : Value) (y : World), Below x0.heap.size x0 y → (#[.int .i64 q1, .int .i64 q2, .int .i64 q3, .int .i64 q4, .int .i64 q5, .bool true, .string bp, .string nm, .string sc, .slice A2 n2 c2, .slice A1 n1 c1] : Array Value)[i]? = some u → y.cell? ⟨w.heap.size, i, none⟩ = some u := fun i u y hB hu => (hB.cell hrl).trans (((blk_cells Hr0.out).1 i).trans hu)
            have Hcell := Lib.hid hcell
            have d6 := Hcell.out 6 _ _ HB3.out rfl
            have d7 := Hcell.out 7 _ _ HB3.out rfl
            have d8 := Hcell.out 8 _ _ HB3.out rfl
            have d9 := Hcell.out 9 _ _ HB3.out rfl
            have Hl3 : Hid ((rw1 d 5 ++ [sI (offN d)]).length = 7) := Lib.hid (by rw [List.length_append, Hwl.out]; rfl)
            clear hcell hown3 hgrow3 hN3 hB3 HWy HNy HBy hyz c5 Hwl
            go_wp2_with fail
            obtain ⟨b, hb⟩ : ∃ b, b = w.heap.size := ⟨_, rfl⟩
            rw [← hb] at d6 d7 d8 d9 ⊢
            have Hb := Lib.hid hb
            clear hb
            with_reducible refine g_mixx [(0, 1), (1, 1), (2, 0), (3, 1), (4, 0), (5, 1), (6, 0), (7, 1), (8, 0), (9, 1), (10, 2), (11, 2), (12, 3), (13, 1)] (fun w' => w'.cell? ⟨b, 6, none⟩ = some (.string bp) ∧ w'.cell? ⟨b, 7, none⟩ = some (.string nm) ∧ w'.cell? ⟨b, 8, none⟩ = some (.string sc) ∧ w'.cell? ⟨b, 9, none⟩ = some (.slice A2 n2 c2)) 0 _ rfl (by kernel_rfl) (by kernel_rfl) ?_ ?_
            · exact ⟨d6, d7, d8, d9⟩
            intro OPS HD
            simp only [mixX, nthO, consX]
            iterate 2 ((with_reducible refine x_any (v := ?_) ?_ ?_); rotate_left; (rintro _; go_simp; first | done | rfl | (constructor <;> rfl)))
            iterate 1 ((with_reducible refine x_val (v := ?_) ?_ ?_ ?_); rotate_left; (rintro _ ⟨h1, h2, h3, h4⟩; go_simp; first | done | rfl | (constructor <;> rfl)); exact ⟨d6, d7, d8, d9⟩)
            iterate 1 ((with_reducible refine x_any (v := ?_) ?_ ?_); rotate_left; (rintro _; go_simp; first | done | rfl | (constructor <;> rfl)))
            iterate 1 ((with_reducible refine x_val (v := ?_) ?_ ?_ ?_); rotate_left; (rintro _ ⟨h1, h2, h3, h4⟩; go_simp; first | done | rfl | (constructor <;> rfl)); exact ⟨d6, d7, d8, d9⟩)
            iterate 1 ((with_reducible refine x_any (v := ?_) ?_ ?_); rotate_left; (rintro _; go_simp; first | done | rfl | (constructor <;> rfl)))
            iterate 1 ((with_reducible refine x_val (v := ?_) ?_ ?_ ?_); rotate_left; (rintro _ ⟨h1, h2, h3, h4⟩; go_simp; first | done | rfl | (constructor <;> rfl)); exact ⟨d6, d7, d8, d9⟩)
            iterate 1 ((with_reducible refine x_any (v := ?_) ?_ ?_); rotate_left; (rintro _; go_simp; first | done | rfl | (constructor <;> rfl)))
            iterate 1 ((with_reducible refine x_val (v := ?_) ?_ ?_ ?_); rotate_left; (rintro _ ⟨h1, h2, h3, h4⟩; go_simp; first | done | rfl | (constructor <;> rfl)); exact ⟨d6, d7, d8, d9⟩)
            iterate 1 ((with_reducible refine x_any (v := ?_) ?_ ?_); rotate_left; (rintro _; go_simp; first | done | rfl | (constructor <;> rfl)))
            with_reducible refine x_one ?_
            refine l_call ?_ ((itoa_call (n := (n2 : Int)) (by omega) (by omega) (Hw0.out.below HB3.out)).mono ?_)
            · go_simp
            rintro e y4 ⟨rfl, hB4⟩
            refine ⟨_, rfl, ?_⟩
            refine x_keep ⟨Cells.of_below hB4 _ _ d6, Cells.of_below hB4 _ _ d7, Cells.of_below hB4 _ _ d8, Cells.of_below hB4 _ _ d9⟩ ?_
            with_reducible refine x_one ?_
            iterate 1 (with_reducible refine l_val (v := ?_) (w' := ?_) ?_ ?_; rotate_left 2; (go_simp; first | done | rfl | (constructor <;> rfl)))
            have hBa := (Below.refl y4.heap.size y4).alloc (Nat.le_refl _) (.cells #[.string bp, .string nm, .string sc, .string (mkS (Lib.itoa (n2 : Int)))] 9)
            have hB4' := hB4.trans (hBa.mono hB4.size)
            refine x_keep ⟨Cells.of_below hB4' _ _ d6, Cells.of_below hB4' _ _ d7, Cells.of_below hB4' _ _ d8, Cells.of_below hB4' _ _ d9⟩ ?_
            have HW4 := Lib.hid (own_keep HW3.out fun q c hq => (hB4'.block q (lt_of_heap hq)).trans hq)
            have HN4 := Lib.hid (own_keep HN3.out fun q c hq => (hB4'.block q (lt_of_heap hq)).trans hq)
            have HB4 := Lib.hid (HB3.out.trans (hB4'.mono HB3.out.size))
            have hz4 := HB4.out.size
            clear hB4 hB4' hBa d6 d7 d8 d9 HW3 HN3 HB3
            with_reducible refine x_three ?_
            refine wpList_append_own _ rfl (.tmp 68) (.tmp 79) 25 rfl x0.heap.size 9 iS (.string ByteArray.empty) 1 16 Tryz.underlying25 hiS hzS hsS hbS rfl (by omega) (.slice A3 (rw1 d 5 ++ [sI (offN d)]).length cw3) (rw1 d 5 ++ [sI (offN d)]).length (txs (rw1 d 5 ++ [sI (offN d)])) ?_ HW4.out ⟨y4.heap.size, 0, none⟩ 4 4 [.string bp, .string nm, .string sc, .string (mkS (Lib.itoa (n2 : Int)))] ?_ rfl (fun j v hv => World.news_of_block (w := y4.alloc _) (heap_alloc_new y4 _) j v hv) (by intro u hu; simp only [List.mem_cons, List.not_mem_nil, or_false] at hu; rcases hu with rfl | rfl | rfl | rfl <;> rfl) (by rw [Hl3.out]; unfold maxLen; omega) (by rw [Hl3.out]; omega) hz4 ?_
            · simp [Act.eval, Act.put]
            · simp [Act.eval, Act.put]
            intro v5 x5 hown5 hgrow5 _
            have HN5 := Lib.hid (own_other HN4.out HW4.out (by decide) hgrow5)
            have HB5 := Lib.hid (HB4.out.grown hgrow5 hz4 (fun q hq => (own_blk HW4.out q hq).1))
            have hrw2 : txs (rw1 d 5 ++ [sI (offN d)]) ++ [.string bp, .string nm, .string sc, .string (mkS (Lib.itoa (n2 : Int)))] = txs (rw2 d) := by
              rw [Hs.out.1, Hs.out.2.1, Hs.out.2.2.1, Hn2t.out]
              simp [txs, rw2, sI]
            rw [hrw2, show (rw1 d 5 ++ [sI (offN d)]).length + 4 = (rw2 d).length by rw [Hl3.out, rw2_len]] at hown5
            obtain ⟨A5, cw5, rfl, -, -, -, -⟩ := own_form hown5
            have HW5 := Lib.hid hown5
            have d9 := Hcell.out 9 _ _ HB5.out rfl
            rw [← Hb.out] at d9
            have Hl5 := Lib.hid (rw2_len d)
            clear hown5 hgrow5 hrw2 HW4 HN4 HB4 hz4
            with_reducible refine x_last ?_
            iterate 1 ((with_reducible refine x_any (v := ?_) ?_ ?_); rotate_left; (rintro _; go_simp; first | done | rfl | (constructor <;> rfl)))
            with_reducible refine x_end ?_
            simp only [Act.put, List.setIfInBounds_toArray, List.set_cons_zero, List.set_cons_succ]
            have H2x : Hid (Sl x5 A2 c2 n2 1 (txs T)) := Lib.hid (by have h := H20.out.keep (Cells.of_below HB5.out); rw [← Hn.out.2] at h; exact h)
            have hz5 := HB5.out.size
            clear HD Hl3
            go_wp2_with (at_builtin; refine append_any _ rfl (.tmp 81) (.tmp 83) 25 rfl x0.heap.size 9 iS (.string ByteArray.empty) 16 Tryz.underlying25 hiS hzS hsS hbS rfl (.slice A5 (rw2 d).length cw5) (rw2 d).length (txs (rw2 d)) rfl HW5.out A2 n2 c2 (txs T) rfl H2x.out (txs_one _) (by rw [Hl5.out]; unfold maxLen; omega) (by rw [Hl5.out]; omega) hz5 ?_)
            intro v6 x6 hown6 hgrow6
            have HN6 := Lib.hid (own_other HN5.out HW5.out (by decide) hgrow6)
            have HB6 := Lib.hid (HB5.out.grown hgrow6 hz5 (fun q hq => (own_blk HW5.out q hq).1))
            rw [show txs (rw2 d) ++ txs T = txs (rw4 d T 0) by simp [txs, rw4], show (rw2 d).length + n2 = (rw4 d T 0).length by rw [rw4_len d T (by omega), Hl5.out, Hn.out.2]; rfl] at hown6
            have HW6 := Lib.hid hown6
            clear hown6 hgrow6 HW5 HN5 HB5 hz5 d9 H2x
            go_wp2_with fail
            go_loopw [7, 9] (fun wv iv wr => RfR4 x0 d T (.slice (some ⟨g, 0, none⟩) nn cn) wv iv wr) (fun _ iv _ => nn - (intOf iv).toNat)
            case atStart => exact ⟨0, by omega, rfl, HW6.out, by rw [← Hnn.out]; exact HN6.out, HB6.out⟩
            case round =>
              clear HW6 HN6 HB6
              obtain ⟨j, hj, rfl, howw, hown, hB⟩ := hrel
              rw [← Hnn.out] at hown
              rw [← Hn.out.1] at hj
              have HW := Lib.hid howw
              have HN := Lib.hid hown
              have HB := Lib.hid hB
              have hwx := HW.out
              obtain ⟨Aw, cw, rfl, -, -, -, -⟩ := own_form hwx
              have Hwl := Lib.hid (rw4_len d T (j := j) (by rw [← Hn.out.1]; exact hj))
              rw [← Hn.out.2] at Hwl
              clear howw hown hB hwx
              obtain ⟨k, hk⟩ : ∃ k : Nat, k = 5 + j := ⟨_, rfl⟩
              rw [← hk]
              have Hkj := Lib.hid hk
              have hkn : k ≤ nn := by omega
              by_cases hlt : j < n1
              · obtain ⟨n, hn, hn64, hcn⟩ := Hni.out k (by omega)
                have cn1 := hcn wr HN.out
                have hjI : (k : Int) < nn := by omega
                have hjr : (0 : Int) ≤ k := by omega
                have Hnj := Lib.hid (rw4_next d T (j := j) (n := n) (by rw [← numL_high d j, ← hk]; exact hn))
                have hjn1 : j + 1 ≤ n1 := by omega
                clear hn hcn hk
                go_wp2_with fail
                refine (itoa_call hn64.1 hn64.2 (Hw0.out.below HB.out)).mono ?_
                rintro e y ⟨rfl, hBy⟩
                have hBy2 := HB.out.trans (hBy.mono HB.out.size)
                have HWy := Lib.hid ((own_keep HW.out fun q c hq => (hBy.block q (lt_of_heap hq)).trans hq).alloc (.cells #[.string (mkS (Lib.itoa n))] 9))
                have HNy := Lib.hid ((own_keep HN.out fun q c hq => (hBy.block q (lt_of_heap hq)).trans hq).alloc (.cells #[.string (mkS (Lib.itoa n))] 9))
                have HBy := Lib.hid (hBy2.alloc hBy2.size (.cells #[.string (mkS (Lib.itoa n))] 9))
                have hyz := HBy.out.size
                clear HW HN HB hBy hBy2
                go_wp2_with (at_builtin; refine wpList_append_own _ rfl (.tmp 91) (.tmp 97) 25 rfl x0.heap.size 9 iS (.string ByteArray.empty) 1 16 Tryz.underlying25 hiS hzS hsS hbS rfl (by omega) (.slice Aw (rw4 d T j).length cw) (rw4 d T j).length (txs (rw4 d T j)) rfl HWy.out ⟨y.heap.size, 0, none⟩ 1 1 [.string (mkS (Lib.itoa n))] rfl rfl (fun j v hv => World.news_of_block (w := y.alloc _) (heap_alloc_new y _) j v hv) (by intro u hu; rw [List.mem_singleton.1 hu]; rfl) (by rw [Hwl.out]; unfold maxLen; omega) (by rw [Hwl.out]; omega) hyz ?_)
                intro v1 wp hown1 hgrow1 _
                have Hm : Hid (RfR4 x0 d T (.slice (some ⟨g, 0, none⟩) nn cn) v1 (.int .i64 ((k : Int) + 1)) wp) := Lib.hid ⟨j + 1, by rw [← Hn.out.1]; exact hjn1, by rw [Hkj.out]; go_num, by rw [Hnj.out, List.length_append, show txs (rw4 d T j ++ [sI n]) = txs (rw4 d T j) ++ [.string (mkS (Lib.itoa n))] by simp [txs, sI]]; exact hown1, by rw [← Hnn.out]; exact own_other HNy.out HWy.out (by decide) hgrow1, HBy.out.grown hgrow1 hyz (fun q hq => (own_blk HWy.out q hq).1)⟩
                clear hown1 hgrow1 HWy HNy HBy
                go_wp2_with fail
                exact ⟨Hm.out, by simp [intOf]; omega⟩
              · have hjI : ¬ (k : Int) < nn := by omega
                have hjs : j = d.sizes.length := by rw [← Hn.out.1]; omega
                have HDw : Hid ((rw4 d T j).map toL = optWords d) := Lib.hid (by rw [hjs]; exact rw4_all d T HT.out)
                obtain ⟨A8, c8, h8, hS8⟩ := row_sl HW.out
                cases h8
                have HS8 := Lib.hid hS8
                have HB8 := Lib.hid (HB0.out.trans (HB.out.mono HB0.out.size))
                clear hS8 hk hjs hlt
                go_wp2_with fail
                refine (line_ref wr (rw4 d T j) _ _ HS8.out (fun p hp => by
                  have h := optWords_small Hok.out (toL p) (by rw [← HDw.out]; exact List.mem_map.2 ⟨p, hp, rfl⟩)
                  rwa [toL_len] at h) (by rw [Hwl.out]; omega)).mono ?_
                rintro e w9 ⟨rfl, hB9⟩
                rw [wrD_eq, HDw.out]
                have HB9 := Lib.hid (HB8.out.trans (hB9.mono HB8.out.size))
                have Hfo2 : Hid (formatO d = if 65536 < (joinB ((optWords d).map writeW)).length then ([], 13) else (joinB ((optWords d).map writeW), 0)) := Lib.hid (by rw [Hfo.out]; rfl)
                obtain ⟨J, hJ⟩ : ∃ J, J = joinB ((optWords d).map writeW) := ⟨_, rfl⟩
                rw [← hJ] at Hfo2 ⊢
                clear hB9 hJ
                by_cases hlong : J.length ≤ 65536
                · have hd : decide (J.length ≤ 65536) = true := decide_eq_true hlong
                  rw [hd]
                  have HF : Hid (formatO d = (J, 0)) := Lib.hid (by rw [Hfo2.out, if_neg (by omega)])
                  go_wp2_with fail
                  exact bodyPost_ret (results_tmp2 rfl _ _ _) rfl ⟨by rw [HF.out]; rfl, HB9.out⟩
                · have hd : decide (J.length ≤ 65536) = false := decide_eq_false hlong
                  rw [hd]
                  have HF : Hid (formatO d = ([], 13)) := Lib.hid (by rw [Hfo2.out, if_pos (by omega)])
                  go_wp2_with fail
                  exact bodyPost_ret (results_tmp2 rfl _ _ _) rfl ⟨by rw [HF.out]; rfl, HB9.out⟩
          · subst hof
            have Hof : Hid (sI (offN d) = ⟨#[48]⟩) := Lib.hid (by unfold offN; rw [← Hs.out.2.2.2]; simp [sI, itoa01.1, itoa01.2]; rfl)
            have HWy := Lib.hid (HW.out.alloc (.cells #[.string ⟨#[48]⟩] 9))
            have HNy := Lib.hid (HN.out.alloc (.cells #[.string ⟨#[48]⟩] 9))
            have HBy := Lib.hid (HB.out.alloc HB.out.size (.cells #[.string ⟨#[48]⟩] 9))
            have hyz := HBy.out.size
            clear HW HN HB
            go_wp2_with (at_builtin; refine wpList_append_own _ rfl (.tmp 65) (.tmp 66) 25 rfl x0.heap.size 9 iS (.string ByteArray.empty) 1 16 Tryz.underlying25 hiS hzS hsS hbS rfl (by omega) (.slice Aw (rw1 d 5).length cw) (rw1 d 5).length (txs (rw1 d 5)) rfl HWy.out ⟨wr.heap.size, 0, none⟩ 1 1 [.string ⟨#[48]⟩] rfl rfl (fun j v hv => World.news_of_block (w := wr.alloc _) (heap_alloc_new wr _) j v hv) (by intro u hu; rw [List.mem_singleton.1 hu]; rfl) (by rw [Hwl.out]; unfold maxLen; omega) (by rw [Hwl.out]; omega) hyz ?_)
            intro v3 x3 hown3 hgrow3 _
            have hN3 := own_other HNy.out HWy.out (by decide) hgrow3
            have hB3 := HBy.out.grown hgrow3 hyz (fun q hq => (own_blk HWy.out q hq).1)
            rw [show (rw1 d 5).length + 1 = (rw1 d 5 ++ [sI (offN d)]).length by simp, show txs (rw1 d 5) ++ [.string ⟨#[48]⟩] = txs (rw1 d 5 ++ [sI (offN d)]) by rw [Hof.out]; simp [txs]] at hown3
            obtain ⟨A3, cw3, rfl, -, -, -, -⟩ := own_form hown3
            have HW3 := Lib.hid (own_keep (w' := x3.drew) hown3 fun q c hq => hq)
            have HN3 := Lib.hid (own_keep (w' := x3.drew) hN3 fun q c hq => hq)
            have HB3 : Hid (Below x0.heap.size x0 x3.drew) := Lib.hid ⟨hB3.os, hB3.tape, hB3.output, hB3.size, hB3.block⟩
            have hcell : ∀ (i : Nat) (u : Value) (y : World), Below x0.heap.size x0 y → (#[.int .i64 q1, .int .i64 q2, .int .i64 q3, .int .i64 q4, .int .i64 q5, .bool false, .string bp, .string nm, .string sc, .slice A2 n2 c2, .slice A1 n1 c1] : Array Value)[i]? = some u → y.cell? ⟨w.heap.size, i, none⟩ = some u := fun i u y hB hu => (hB.cell hrl).trans (((blk_cells Hr0.out).1 i).trans hu)
            have Hcell := Lib.hid hcell
            have d6 := Hcell.out 6 _ _ HB3.out rfl
            have d7 := Hcell.out 7 _ _ HB3.out rfl
            have d8 := Hcell.out 8 _ _ HB3.out rfl
            have d9 := Hcell.out 9 _ _ HB3.out rfl
            have Hl3 : Hid ((rw1 d 5 ++ [sI (offN d)]).length = 7) := Lib.hid (by rw [List.length_append, Hwl.out]; rfl)
            clear hcell hown3 hgrow3 hN3 hB3 HWy HNy HBy hyz c5 Hwl
            go_wp2_with fail
            obtain ⟨b, hb⟩ : ∃ b, b = w.heap.size := ⟨_, rfl⟩
            rw [← hb] at d6 d7 d8 d9 ⊢
            have Hb := Lib.hid hb
            clear hb
            with_reducible refine g_mixx [(0, 1), (1, 1), (2, 0), (3, 1), (4, 0), (5, 1), (6, 0), (7, 1), (8, 0), (9, 1), (10, 2), (11, 2), (12, 3), (13, 1)] (fun w' => w'.cell? ⟨b, 6, none⟩ = some (.string bp) ∧ w'.cell? ⟨b, 7, none⟩ = some (.string nm) ∧ w'.cell? ⟨b, 8, none⟩ = some (.string sc) ∧ w'.cell? ⟨b, 9, none⟩ = some (.slice A2 n2 c2)) 0 _ rfl (by kernel_rfl) (by kernel_rfl) ?_ ?_
            · exact ⟨d6, d7, d8, d9⟩
            intro OPS HD
            simp only [mixX, nthO, consX]
            iterate 2 ((with_reducible refine x_any (v := ?_) ?_ ?_); rotate_left; (rintro _; go_simp; first | done | rfl | (constructor <;> rfl)))
            iterate 1 ((with_reducible refine x_val (v := ?_) ?_ ?_ ?_); rotate_left; (rintro _ ⟨h1, h2, h3, h4⟩; go_simp; first | done | rfl | (constructor <;> rfl)); exact ⟨d6, d7, d8, d9⟩)
            iterate 1 ((with_reducible refine x_any (v := ?_) ?_ ?_); rotate_left; (rintro _; go_simp; first | done | rfl | (constructor <;> rfl)))
            iterate 1 ((with_reducible refine x_val (v := ?_) ?_ ?_ ?_); rotate_left; (rintro _ ⟨h1, h2, h3, h4⟩; go_simp; first | done | rfl | (constructor <;> rfl)); exact ⟨d6, d7, d8, d9⟩)
            iterate 1 ((with_reducible refine x_any (v := ?_) ?_ ?_); rotate_left; (rintro _; go_simp; first | done | rfl | (constructor <;> rfl)))
            iterate 1 ((with_reducible refine x_val (v := ?_) ?_ ?_ ?_); rotate_left; (rintro _ ⟨h1, h2, h3, h4⟩; go_simp; first | done | rfl | (constructor <;> rfl)); exact ⟨d6, d7, d8, d9⟩)
            iterate 1 ((with_reducible refine x_any (v := ?_) ?_ ?_); rotate_left; (rintro _; go_simp; first | done | rfl | (constructor <;> rfl)))
            iterate 1 ((with_reducible refine x_val (v := ?_) ?_ ?_ ?_); rotate_left; (rintro _ ⟨h1, h2, h3, h4⟩; go_simp; first | done | rfl | (constructor <;> rfl)); exact ⟨d6, d7, d8, d9⟩)
            iterate 1 ((with_reducible refine x_any (v := ?_) ?_ ?_); rotate_left; (rintro _; go_simp; first | done | rfl | (constructor <;> rfl)))
            with_reducible refine x_one ?_
            refine l_call ?_ ((itoa_call (n := (n2 : Int)) (by omega) (by omega) (Hw0.out.below HB3.out)).mono ?_)
            · go_simp
            rintro e y4 ⟨rfl, hB4⟩
            refine ⟨_, rfl, ?_⟩
            refine x_keep ⟨Cells.of_below hB4 _ _ d6, Cells.of_below hB4 _ _ d7, Cells.of_below hB4 _ _ d8, Cells.of_below hB4 _ _ d9⟩ ?_
            with_reducible refine x_one ?_
            iterate 1 (with_reducible refine l_val (v := ?_) (w' := ?_) ?_ ?_; rotate_left 2; (go_simp; first | done | rfl | (constructor <;> rfl)))
            have hBa := (Below.refl y4.heap.size y4).alloc (Nat.le_refl _) (.cells #[.string bp, .string nm, .string sc, .string (mkS (Lib.itoa (n2 : Int)))] 9)
            have hB4' := hB4.trans (hBa.mono hB4.size)
            refine x_keep ⟨Cells.of_below hB4' _ _ d6, Cells.of_below hB4' _ _ d7, Cells.of_below hB4' _ _ d8, Cells.of_below hB4' _ _ d9⟩ ?_
            have HW4 := Lib.hid (own_keep HW3.out fun q c hq => (hB4'.block q (lt_of_heap hq)).trans hq)
            have HN4 := Lib.hid (own_keep HN3.out fun q c hq => (hB4'.block q (lt_of_heap hq)).trans hq)
            have HB4 := Lib.hid (HB3.out.trans (hB4'.mono HB3.out.size))
            have hz4 := HB4.out.size
            clear hB4 hB4' hBa d6 d7 d8 d9 HW3 HN3 HB3
            with_reducible refine x_three ?_
            refine wpList_append_own _ rfl (.tmp 68) (.tmp 79) 25 rfl x0.heap.size 9 iS (.string ByteArray.empty) 1 16 Tryz.underlying25 hiS hzS hsS hbS rfl (by omega) (.slice A3 (rw1 d 5 ++ [sI (offN d)]).length cw3) (rw1 d 5 ++ [sI (offN d)]).length (txs (rw1 d 5 ++ [sI (offN d)])) ?_ HW4.out ⟨y4.heap.size, 0, none⟩ 4 4 [.string bp, .string nm, .string sc, .string (mkS (Lib.itoa (n2 : Int)))] ?_ rfl (fun j v hv => World.news_of_block (w := y4.alloc _) (heap_alloc_new y4 _) j v hv) (by intro u hu; simp only [List.mem_cons, List.not_mem_nil, or_false] at hu; rcases hu with rfl | rfl | rfl | rfl <;> rfl) (by rw [Hl3.out]; unfold maxLen; omega) (by rw [Hl3.out]; omega) hz4 ?_
            · simp [Act.eval, Act.put]
            · simp [Act.eval, Act.put]
            intro v5 x5 hown5 hgrow5 _
            have HN5 := Lib.hid (own_other HN4.out HW4.out (by decide) hgrow5)
            have HB5 := Lib.hid (HB4.out.grown hgrow5 hz4 (fun q hq => (own_blk HW4.out q hq).1))
            have hrw2 : txs (rw1 d 5 ++ [sI (offN d)]) ++ [.string bp, .string nm, .string sc, .string (mkS (Lib.itoa (n2 : Int)))] = txs (rw2 d) := by
              rw [Hs.out.1, Hs.out.2.1, Hs.out.2.2.1, Hn2t.out]
              simp [txs, rw2, sI]
            rw [hrw2, show (rw1 d 5 ++ [sI (offN d)]).length + 4 = (rw2 d).length by rw [Hl3.out, rw2_len]] at hown5
            obtain ⟨A5, cw5, rfl, -, -, -, -⟩ := own_form hown5
            have HW5 := Lib.hid hown5
            have d9 := Hcell.out 9 _ _ HB5.out rfl
            rw [← Hb.out] at d9
            have Hl5 := Lib.hid (rw2_len d)
            clear hown5 hgrow5 hrw2 HW4 HN4 HB4 hz4
            with_reducible refine x_last ?_
            iterate 1 ((with_reducible refine x_any (v := ?_) ?_ ?_); rotate_left; (rintro _; go_simp; first | done | rfl | (constructor <;> rfl)))
            with_reducible refine x_end ?_
            simp only [Act.put, List.setIfInBounds_toArray, List.set_cons_zero, List.set_cons_succ]
            have H2x : Hid (Sl x5 A2 c2 n2 1 (txs T)) := Lib.hid (by have h := H20.out.keep (Cells.of_below HB5.out); rw [← Hn.out.2] at h; exact h)
            have hz5 := HB5.out.size
            clear HD Hl3
            go_wp2_with (at_builtin; refine append_any _ rfl (.tmp 81) (.tmp 83) 25 rfl x0.heap.size 9 iS (.string ByteArray.empty) 16 Tryz.underlying25 hiS hzS hsS hbS rfl (.slice A5 (rw2 d).length cw5) (rw2 d).length (txs (rw2 d)) rfl HW5.out A2 n2 c2 (txs T) rfl H2x.out (txs_one _) (by rw [Hl5.out]; unfold maxLen; omega) (by rw [Hl5.out]; omega) hz5 ?_)
            intro v6 x6 hown6 hgrow6
            have HN6 := Lib.hid (own_other HN5.out HW5.out (by decide) hgrow6)
            have HB6 := Lib.hid (HB5.out.grown hgrow6 hz5 (fun q hq => (own_blk HW5.out q hq).1))
            rw [show txs (rw2 d) ++ txs T = txs (rw4 d T 0) by simp [txs, rw4], show (rw2 d).length + n2 = (rw4 d T 0).length by rw [rw4_len d T (by omega), Hl5.out, Hn.out.2]; rfl] at hown6
            have HW6 := Lib.hid hown6
            clear hown6 hgrow6 HW5 HN5 HB5 hz5 d9 H2x
            go_wp2_with fail
            go_loopw [7, 9] (fun wv iv wr => RfR4 x0 d T (.slice (some ⟨g, 0, none⟩) nn cn) wv iv wr) (fun _ iv _ => nn - (intOf iv).toNat)
            case atStart => exact ⟨0, by omega, rfl, HW6.out, by rw [← Hnn.out]; exact HN6.out, HB6.out⟩
            case round =>
              clear HW6 HN6 HB6
              obtain ⟨j, hj, rfl, howw, hown, hB⟩ := hrel
              rw [← Hnn.out] at hown
              rw [← Hn.out.1] at hj
              have HW := Lib.hid howw
              have HN := Lib.hid hown
              have HB := Lib.hid hB
              have hwx := HW.out
              obtain ⟨Aw, cw, rfl, -, -, -, -⟩ := own_form hwx
              have Hwl := Lib.hid (rw4_len d T (j := j) (by rw [← Hn.out.1]; exact hj))
              rw [← Hn.out.2] at Hwl
              clear howw hown hB hwx
              obtain ⟨k, hk⟩ : ∃ k : Nat, k = 5 + j := ⟨_, rfl⟩
              rw [← hk]
              have Hkj := Lib.hid hk
              have hkn : k ≤ nn := by omega
              by_cases hlt : j < n1
              · obtain ⟨n, hn, hn64, hcn⟩ := Hni.out k (by omega)
                have cn1 := hcn wr HN.out
                have hjI : (k : Int) < nn := by omega
                have hjr : (0 : Int) ≤ k := by omega
                have Hnj := Lib.hid (rw4_next d T (j := j) (n := n) (by rw [← numL_high d j, ← hk]; exact hn))
                have hjn1 : j + 1 ≤ n1 := by omega
                clear hn hcn hk
                go_wp2_with fail
                refine (itoa_call hn64.1 hn64.2 (Hw0.out.below HB.out)).mono ?_
                rintro e y ⟨rfl, hBy⟩
                have hBy2 := HB.out.trans (hBy.mono HB.out.size)
                have HWy := Lib.hid ((own_keep HW.out fun q c hq => (hBy.block q (lt_of_heap hq)).trans hq).alloc (.cells #[.string (mkS (Lib.itoa n))] 9))
                have HNy := Lib.hid ((own_keep HN.out fun q c hq => (hBy.block q (lt_of_heap hq)).trans hq).alloc (.cells #[.string (mkS (Lib.itoa n))] 9))
                have HBy := Lib.hid (hBy2.alloc hBy2.size (.cells #[.string (mkS (Lib.itoa n))] 9))
                have hyz := HBy.out.size
                clear HW HN HB hBy hBy2
                go_wp2_with (at_builtin; refine wpList_append_own _ rfl (.tmp 91) (.tmp 97) 25 rfl x0.heap.size 9 iS (.string ByteArray.empty) 1 16 Tryz.underlying25 hiS hzS hsS hbS rfl (by omega) (.slice Aw (rw4 d T j).length cw) (rw4 d T j).length (txs (rw4 d T j)) rfl HWy.out ⟨y.heap.size, 0, none⟩ 1 1 [.string (mkS (Lib.itoa n))] rfl rfl (fun j v hv => World.news_of_block (w := y.alloc _) (heap_alloc_new y _) j v hv) (by intro u hu; rw [List.mem_singleton.1 hu]; rfl) (by rw [Hwl.out]; unfold maxLen; omega) (by rw [Hwl.out]; omega) hyz ?_)
                intro v1 wp hown1 hgrow1 _
                have Hm : Hid (RfR4 x0 d T (.slice (some ⟨g, 0, none⟩) nn cn) v1 (.int .i64 ((k : Int) + 1)) wp) := Lib.hid ⟨j + 1, by rw [← Hn.out.1]; exact hjn1, by rw [Hkj.out]; go_num, by rw [Hnj.out, List.length_append, show txs (rw4 d T j ++ [sI n]) = txs (rw4 d T j) ++ [.string (mkS (Lib.itoa n))] by simp [txs, sI]]; exact hown1, by rw [← Hnn.out]; exact own_other HNy.out HWy.out (by decide) hgrow1, HBy.out.grown hgrow1 hyz (fun q hq => (own_blk HWy.out q hq).1)⟩
                clear hown1 hgrow1 HWy HNy HBy
                go_wp2_with fail
                exact ⟨Hm.out, by simp [intOf]; omega⟩
              · have hjI : ¬ (k : Int) < nn := by omega
                have hjs : j = d.sizes.length := by rw [← Hn.out.1]; omega
                have HDw : Hid ((rw4 d T j).map toL = optWords d) := Lib.hid (by rw [hjs]; exact rw4_all d T HT.out)
                obtain ⟨A8, c8, h8, hS8⟩ := row_sl HW.out
                cases h8
                have HS8 := Lib.hid hS8
                have HB8 := Lib.hid (HB0.out.trans (HB.out.mono HB0.out.size))
                clear hS8 hk hjs hlt
                go_wp2_with fail
                refine (line_ref wr (rw4 d T j) _ _ HS8.out (fun p hp => by
                  have h := optWords_small Hok.out (toL p) (by rw [← HDw.out]; exact List.mem_map.2 ⟨p, hp, rfl⟩)
                  rwa [toL_len] at h) (by rw [Hwl.out]; omega)).mono ?_
                rintro e w9 ⟨rfl, hB9⟩
                rw [wrD_eq, HDw.out]
                have HB9 := Lib.hid (HB8.out.trans (hB9.mono HB8.out.size))
                have Hfo2 : Hid (formatO d = if 65536 < (joinB ((optWords d).map writeW)).length then ([], 13) else (joinB ((optWords d).map writeW), 0)) := Lib.hid (by rw [Hfo.out]; rfl)
                obtain ⟨J, hJ⟩ : ∃ J, J = joinB ((optWords d).map writeW) := ⟨_, rfl⟩
                rw [← hJ] at Hfo2 ⊢
                clear hB9 hJ
                by_cases hlong : J.length ≤ 65536
                · have hd : decide (J.length ≤ 65536) = true := decide_eq_true hlong
                  rw [hd]
                  have HF : Hid (formatO d = (J, 0)) := Lib.hid (by rw [Hfo2.out, if_neg (by omega)])
                  go_wp2_with fail
                  exact bodyPost_ret (results_tmp2 rfl _ _ _) rfl ⟨by rw [HF.out]; rfl, HB9.out⟩
                · have hd : decide (J.length ≤ 65536) = false := decide_eq_false hlong
                  rw [hd]
                  have HF : Hid (formatO d = ([], 13)) := Lib.hid (by rw [Hfo2.out, if_pos (by omega)])
                  go_wp2_with fail
                  exact bodyPost_ret (results_tmp2 rfl _ _ _) rfl ⟨by rw [HF.out]; rfl, HB9.out⟩
end Go.Proofs.YtlljjddgbilipaaGreatDoor

