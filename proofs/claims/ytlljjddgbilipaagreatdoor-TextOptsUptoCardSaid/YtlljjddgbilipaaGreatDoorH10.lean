/-
  fewOpts, opts, sameOpts: the law's small functions over options.
  opts: the reference's options as story's; sameOpts of options that read the same.
-/
import Derived.Test.YtlljjddgbilipaaGreatDoorTxOp3
import Derived.Test.YtlljjddgbilipaaGreatDoorTxOpr
namespace Go.Proofs.YtlljjddgbilipaaGreatDoor
open Go.RowKit Go.Maps

set_option linter.unusedSimpArgs false

attribute [local go_sem] lt1 lt2 lt3 lt4 lt5 lt6

def SiRel (x : List Int) (w : World) (i : Value) (wr : World) : Prop := ∃ k : Nat, k ≤ x.length ∧ i = .int .i64 k ∧ ∃ n, wr = w.drewN n
set_option maxHeartbeats 1000000 in
theorem ints_self (x : List Int) (A1 A2 : Option Addr) (c1 c2 : Nat) (w : World) (h1 : Sl w A1 c1 x.length 1 (iV x)) (h2 : Sl w A2 c2 x.length 1 (iV x)) :
    Calls Tryz.prog 27 #[.slice A1 x.length c1, .slice A2 x.length c2] w fun e w' => e = .returned (.bool true) ∧ ∃ n, w' = w.drewN n := by
  have hx : x.length ≤ 9223372036854775807 := by have a := h1.le; have b := h1.big; unfold maxLen at b; omega
  have H1 := Lib.hid h1
  have H2 := Lib.hid h2
  clear h1 h2
  have hb : ((x.length : Int) != x.length) = false := by simp
  go_enter Tryz.func27, Tryz.ntmps27
  go_wp2
  go_loopw [5] (fun i wr => SiRel x w i wr) (fun i _ => x.length - (intOf i).toNat)
  case atStart => exact ⟨0, by omega, rfl, 0, rfl⟩
  case round =>
    obtain ⟨k, hk, rfl, n, rfl⟩ := hrel
    by_cases hlt : k < x.length
    · obtain ⟨b1, o1, p, rfl, hp, g1⟩ := iV_at H1.out hlt
      obtain ⟨b2, o2, q, rfl, hq, g2⟩ := iV_at H2.out hlt
      rw [hp] at hq
      cases hq
      clear hp
      go_wp2_with fail
      go_quiet (fail)
      go_wp2
      go_roundw
      case rel => exact ⟨k+1, by omega, by go_num, _, rfl⟩
      case measure => simp [intOf]; omega
    · go_wp2
      go_ret
      exact ⟨rfl, _, rfl⟩
theorem map_mkS' : ∀ (D : List ByteArray) (l : List (List UInt8)), D.map toL = l → D = l.map mkS
  | [], _, h => by subst h; rfl
  | x :: r, _, h => by subst h; rw [List.map_cons, List.map_cons, mkS_toL, ← map_mkS' r _ rfl]
def FwPost (w : World) (m k : Nat) (e : Ending) (w' : World) : Prop := (∃ b, e = .returned (.bool b) ∧ (b = true → m ≤ 100 ∧ k ≤ 100)) ∧ Below w.heap.size w w'
def FwRel (w : World) (n2 : Nat) (nv iv : Value) (wr : World) : Prop := ∃ (j : Nat) (n : Int), j ≤ n2 ∧ iv = .int .i64 (j : Nat) ∧ nv = .int .i64 n ∧ 0 ≤ n ∧ n ≤ 60000 ∧ wr = w
set_option maxRecDepth 100000 in
set_option maxHeartbeats 8000000 in
theorem fewOpts_any (w : World) (V : Array Value) (d : OptD) (hV : OpBox w V d) (hok : OptOk d) : Calls Tryz.prog 5 #[.agg V] w (FwPost w d.tags.length d.sizes.length) := by
  obtain ⟨A1, A2, A3, c1, c2, c3, T, kn, ks, rfl, hs1, hs2, hT, hs3⟩ := hV
  obtain ⟨n1, hn1⟩ : ∃ n, n = d.sizes.length := ⟨_, rfl⟩
  obtain ⟨n2, hn2⟩ : ∃ n, n = T.length := ⟨_, rfl⟩
  obtain ⟨n3, hn3⟩ : ∃ n, n = d.secret.length := ⟨_, rfl⟩
  have hn2t : n2 = d.tags.length := by rw [hn2, ← hT, List.length_map]
  rw [← hn1, ← hn2, ← hn3]
  rw [← hn2t]
  have HT : Hid (∀ p ∈ T, p.size ≤ 1048576) := Lib.hid (fun p hp => by
    have := hok.tags (toL p) (by rw [← hT]; exact List.mem_map.2 ⟨p, hp, rfl⟩)
    rwa [toL_len] at this)
  have H2 := Lib.hid hs2
  have hn1z : n1 ≤ 1048576 := by rw [hn1]; exact hok.few2
  have hn2z : n2 ≤ 1048576 := by rw [hn2t]; exact hok.few
  have hn3z : n3 ≤ 1048576 := by rw [hn3]; exact hok.secret
  have Hn2 := Lib.hid hn2
  obtain ⟨bp, hbp⟩ : ∃ n, n = mkS d.bypass := ⟨_, rfl⟩
  obtain ⟨nm, hnm⟩ : ∃ n, n = mkS d.name := ⟨_, rfl⟩
  have hbz : bp.size ≤ 1048576 := by rw [hbp]; have := hok.bypass; simp [mkS, ByteArray.size]; omega
  have hnz : nm.size ≤ 1048576 := by rw [hnm]; have := hok.name; simp [mkS, ByteArray.size]; omega
  rw [← hbp, ← hnm]
  clear hs1 hs2 hs3 hT hn1 hn2 hn3 hn2t hok hbp hnm
  unfold opV
  go_enter Tryz.func5, Tryz.ntmps5
  go_wp2_with fail
  have hr0 : (w.alloc (.cells #[.int .i64 d.quota, .slice A1 n1 c1, .int .i64 d.workers, .int .i64 d.tries, .int .i64 d.patience, .int .i64 d.budget, .slice A2 n2 c2, .string bp, .bool d.offline, .string kn, .string ks, .string nm, .slice A3 n3 c3] 32)).heap[w.heap.size]? = some (.cells #[.int .i64 d.quota, .slice A1 n1 c1, .int .i64 d.workers, .int .i64 d.tries, .int .i64 d.patience, .int .i64 d.budget, .slice A2 n2 c2, .string bp, .bool d.offline, .string kn, .string ks, .string nm, .slice A3 n3 c3] 32 (0, 0)) := heap_alloc_new _ _
  have hB0 : Below w.heap.size w (w.alloc (.cells #[.int .i64 d.quota, .slice A1 n1 c1, .int .i64 d.workers, .int .i64 d.tries, .int .i64 d.patience, .int .i64 d.budget, .slice A2 n2 c2, .string bp, .bool d.offline, .string kn, .string ks, .string nm, .slice A3 n3 c3] 32)) := (Below.refl _ _).alloc (Nat.le_refl _) _
  have HB0 := Lib.hid hB0
  have H20 := Lib.hid (H2.out.keep (Cells.of_below hB0))
  generalize (w.alloc (.cells #[.int .i64 d.quota, .slice A1 n1 c1, .int .i64 d.workers, .int .i64 d.tries, .int .i64 d.patience, .int .i64 d.budget, .slice A2 n2 c2, .string bp, .bool d.offline, .string kn, .string ks, .string nm, .slice A3 n3 c3] 32)) = x0 at *
  have c1' : x0.cell? ⟨w.heap.size, 1, none⟩ = some (.slice A1 n1 c1) := (blk_cells hr0).1 1
  have c6' : x0.cell? ⟨w.heap.size, 6, none⟩ = some (.slice A2 n2 c2) := (blk_cells hr0).1 6
  clear H2 hB0 hr0
  go_loopw [3, 4] (fun nv iv wr => FwRel x0 n2 nv iv wr) (fun _ iv _ => n2 - (intOf iv).toNat)
  case atStart =>
    refine ⟨0, _, by omega, rfl, rfl, ?_, ?_, rfl⟩ <;> omega
  case round =>
    obtain ⟨j, n, hj, rfl, rfl, hn0, hn1, rfl⟩ := hrel
    by_cases hlt : j < n2
    · by_cases h100 : j ≤ 100
      · obtain ⟨b, o, q, hA, hq, hc⟩ := str_at (x := T) H20.out (i := j) (by rw [← Hn2.out]; exact hlt)
        subst hA
        have hqz := HT.out q (List.mem_of_getElem? hq)
        have hjI : (j : Int) < n2 := by omega
        have hjr : (0 : Int) ≤ j := by omega
        have hj100 : (j : Int) ≤ 100 := by omega
        clear hq
        go_wp2_with fail
        exact ⟨⟨j + 1, _, by omega, by go_num, rfl, by omega, by omega, rfl⟩, by simp [intOf]; omega⟩
      · have hjI : (j : Int) < n2 := by omega
        have hj100 : ¬ (j : Int) ≤ 100 := by omega
        have hn2b : ¬ (n2 : Int) ≤ 100 := by omega
        by_cases hr : n ≤ 20000
        · go_wp2_with fail
          go_ret
          exact ⟨⟨false, rfl, fun h => by cases h⟩, HB0.out⟩
        · go_wp2_with fail
          go_ret
          exact ⟨⟨false, rfl, fun h => by cases h⟩, HB0.out⟩
    · have hjI : ¬ (j : Int) < n2 := by omega
      by_cases hr : n ≤ 20000
      · by_cases h2 : (n2 : Int) ≤ 100
        · by_cases h1 : (n1 : Int) ≤ 100
          · go_wp2_with fail
            go_ret
            exact ⟨⟨true, by simp [h1], fun _ => by omega⟩, HB0.out⟩
          · go_wp2_with fail
            go_ret
            exact ⟨⟨false, by simp [h1], fun h => by cases h⟩, HB0.out⟩
        · go_wp2_with fail
          go_ret
          exact ⟨⟨false, rfl, fun h => by cases h⟩, HB0.out⟩
      · go_wp2_with fail
        go_ret
        exact ⟨⟨false, rfl, fun h => by cases h⟩, HB0.out⟩
end Go.Proofs.YtlljjddgbilipaaGreatDoor
namespace Go.Proofs.YtlljjddgbilipaaGreatDoor
open Go.RowKit Go.Maps

set_option linter.unusedSimpArgs false

attribute [local go_sem] lt1 lt2 lt3 lt4 lt5 lt6

def OsPost (w : World) (d : OptD) (e : Ending) (w' : World) : Prop := ∃ V, e = .returned (.agg V) ∧ OpBox w' V d ∧ Below w.heap.size w w'
set_option maxRecDepth 100000 in
set_option maxHeartbeats 8000000 in
theorem opts_any (w : World) (V : Array Value) (d : OptD) (hV : RoBox w V d) (hs : d.secret.length ≤ 1048576) : Calls Tryz.prog 11 #[.agg V] w (OsPost w d) := by
  obtain ⟨A1, A2, c1, c2, T, rfl, hs1, hs2, hT⟩ := hV
  obtain ⟨n1, hn1⟩ : ∃ n, n = d.sizes.length := ⟨_, rfl⟩
  obtain ⟨n2, hn2⟩ : ∃ n, n = T.length := ⟨_, rfl⟩
  obtain ⟨bp, hbp⟩ : ∃ n, n = mkS d.bypass := ⟨_, rfl⟩
  obtain ⟨nm, hnm⟩ : ∃ n, n = mkS d.name := ⟨_, rfl⟩
  obtain ⟨sc, hsc⟩ : ∃ n, n = mkS d.secret := ⟨_, rfl⟩
  have hscz : sc.size ≤ 1048576 := by rw [hsc]; simp [mkS, ByteArray.size]; omega
  have hscl : toL sc = d.secret := by rw [hsc, toL_mkS]
  rw [← hn1, ← hn2, ← hbp, ← hnm, ← hsc]
  have H1 := Lib.hid hs1
  have H2 := Lib.hid hs2
  have HT := Lib.hid hT
  have Hn := Lib.hid (And.intro hn1 hn2)
  have Hs := Lib.hid (And.intro hbp (And.intro hnm hscl))
  clear hs1 hs2 hT hn1 hn2 hbp hnm hsc hscl hs
  unfold ropV
  by_cases h0 : sc.toList = []
  · have hb : (sc.toList == []) = true := by rw [h0]; rfl
    have hb2 : (sc.toList != []) = false := by rw [h0]; rfl
    have Hz : Hid (d.secret = []) := Lib.hid (by rw [← Hs.out.2.2, ← toList_toL]; exact h0)
    clear h0
    go_enter Tryz.func11, Tryz.ntmps11
    go_wp2_with fail
    have hB : Below w.heap.size w ((w.alloc (.cells #[.int .i64 d.quota, .int .i64 d.workers, .int .i64 d.tries, .int .i64 d.patience, .int .i64 d.budget, .bool d.offline, .string bp, .string nm, .string sc, .slice A2 n2 c2, .slice A1 n1 c1] 39)).alloc (.cells #[.int .i64 d.quota, .slice A1 n1 c1, .int .i64 d.workers, .int .i64 d.tries, .int .i64 d.patience, .int .i64 d.budget, .slice A2 n2 c2, .string bp, .bool d.offline, .string ⟨#[]⟩, .string ⟨#[]⟩, .string nm, .slice none 0 0] 32)) := ((Below.refl _ _).alloc (Nat.le_refl _) _).alloc (by simp) _
    have hg : ((w.alloc (.cells #[.int .i64 d.quota, .int .i64 d.workers, .int .i64 d.tries, .int .i64 d.patience, .int .i64 d.budget, .bool d.offline, .string bp, .string nm, .string sc, .slice A2 n2 c2, .slice A1 n1 c1] 39)).alloc (.cells #[.int .i64 d.quota, .slice A1 n1 c1, .int .i64 d.workers, .int .i64 d.tries, .int .i64 d.patience, .int .i64 d.budget, .slice A2 n2 c2, .string bp, .bool d.offline, .string ⟨#[]⟩, .string ⟨#[]⟩, .string nm, .slice none 0 0] 32)).heap[w.heap.size + 1]? = some (.cells #[.int .i64 d.quota, .slice A1 n1 c1, .int .i64 d.workers, .int .i64 d.tries, .int .i64 d.patience, .int .i64 d.budget, .slice A2 n2 c2, .string bp, .bool d.offline, .string ⟨#[]⟩, .string ⟨#[]⟩, .string nm, .slice none 0 0] 32 (0, 0)) := by
      rw [heap_alloc_if, if_pos (by simp)]
    refine bodyPost_ret (results_cell_row rfl _ _ (w.heap.size + 1) 32 #[.int .i64 d.quota, .slice A1 n1 c1, .int .i64 d.workers, .int .i64 d.tries, .int .i64 d.patience, .int .i64 d.budget, .slice A2 n2 c2, .string bp, .bool d.offline, .string ⟨#[]⟩, .string ⟨#[]⟩, .string nm, .slice none 0 0] (0, 0) _ rfl hg Tryz.underlying32 rfl sizeOpt) rfl ⟨_, rfl, ?_, hB⟩
    refine ⟨A1, A2, none, c1, c2, 0, T, ⟨#[]⟩, ⟨#[]⟩, ?_, H1.out.keep (Cells.of_below hB), H2.out.keep (Cells.of_below hB), HT.out, ?_⟩
    · rw [← Hn.out.1, ← Hn.out.2, ← Hs.out.1, ← Hs.out.2.1, Hz.out]
      rfl
    · rw [Hz.out]
      exact Bs.none_ _
  · have hb : (sc.toList == []) = false := beq_eq_false_iff_ne.2 h0
    have hb2 : (sc.toList != []) = true := bne_iff_ne.2 h0
    obtain ⟨dv, wc, hcv, hdat, hBc, hdv1⟩ := bytes_datB ((w.alloc (.cells #[.int .i64 d.quota, .int .i64 d.workers, .int .i64 d.tries, .int .i64 d.patience, .int .i64 d.budget, .bool d.offline, .string bp, .string nm, .string sc, .slice A2 n2 c2, .slice A1 n1 c1] 39)).alloc (.cells #[.int .i64 0, .slice none 0 0, .int .i64 0, .int .i64 0, .int .i64 0, .int .i64 0, .slice none 0 0, .string ⟨#[]⟩, .bool false, .string ⟨#[]⟩, .string ⟨#[]⟩, .string ⟨#[]⟩, .slice none 0 0] 32)) sc hscz
    have hBa : Below w.heap.size w ((w.alloc (.cells #[.int .i64 d.quota, .int .i64 d.workers, .int .i64 d.tries, .int .i64 d.patience, .int .i64 d.budget, .bool d.offline, .string bp, .string nm, .string sc, .slice A2 n2 c2, .slice A1 n1 c1] 39)).alloc (.cells #[.int .i64 0, .slice none 0 0, .int .i64 0, .int .i64 0, .int .i64 0, .int .i64 0, .slice none 0 0, .string ⟨#[]⟩, .bool false, .string ⟨#[]⟩, .string ⟨#[]⟩, .string ⟨#[]⟩, .slice none 0 0] 32)) := ((Below.refl _ _).alloc (Nat.le_refl _) _).alloc (by simp) _
    have hBw := hBa.trans (hBc.mono hBa.size)
    have hr0 : wc.heap[w.heap.size]? = some (.cells #[.int .i64 d.quota, .int .i64 d.workers, .int .i64 d.tries, .int .i64 d.patience, .int .i64 d.budget, .bool d.offline, .string bp, .string nm, .string sc, .slice A2 n2 c2, .slice A1 n1 c1] 39 (0, 0)) := (hBc.block _ (by simp; omega)).trans (by rw [heap_alloc_if, if_neg (by simp), heap_alloc_if, if_pos rfl])
    have hr1 : wc.heap[w.heap.size + 1]? = some (.cells zOV.toArray 32 (0, 0)) := (hBc.block _ (by simp)).trans (by rw [heap_alloc_if, if_pos (by simp)]; rfl)
    have hc := (blk_cells hr0).1
    have hdat' := hdat
    obtain ⟨A3, c3, rfl, hb3, -⟩ := hdat'
    obtain ⟨n3, hn3⟩ : ∃ n3, n3 = (toL sc).length := ⟨_, rfl⟩
    rw [← hn3] at hcv hdat
    have Hn3 := Lib.hid hn3
    have Hdat := Lib.hid hdat
    have HBw := Lib.hid hBw
    have Hr1 := Lib.hid hr1
    have hl1 := lt_of_heap hr0
    clear h0 hdat hb3 hBc hBa hBw hr1 hr0 hdv1 hn3
    go_enter Tryz.func11, Tryz.ntmps11
    go_wp2_with ((with_reducible refine at_store 32 ?_); refine wpList_store_row rfl 32 _ _ rfl (w.heap.size + 1) #[.int .i64 d.quota, .slice A1 n1 c1, .int .i64 d.workers, .int .i64 d.tries, .int .i64 d.patience, .int .i64 d.budget, .slice A2 n2 c2, .string bp, .bool d.offline, .string ⟨#[]⟩, .string ⟨#[]⟩, .string nm, .slice A3 n3 c3] rfl rfl 32 zOV.toArray Hr1.out sizeOpt rfl (opV_one rfl rfl rfl) ?_)
    refine bodyPost_ret (results_cell_row rfl _ _ (w.heap.size + 1) 32 #[.int .i64 d.quota, .slice A1 n1 c1, .int .i64 d.workers, .int .i64 d.tries, .int .i64 d.patience, .int .i64 d.budget, .slice A2 n2 c2, .string bp, .bool d.offline, .string ⟨#[]⟩, .string ⟨#[]⟩, .string nm, .slice A3 n3 c3] (0, 0) _ rfl (setRow_heap _ _ _ _ _ _ Hr1.out) Tryz.underlying32 rfl sizeOpt) rfl ?_
    have hBf := below_row HBw.out (show w.heap.size ≤ w.heap.size + 1 by omega) #[.int .i64 d.quota, .slice A1 n1 c1, .int .i64 d.workers, .int .i64 d.tries, .int .i64 d.patience, .int .i64 d.budget, .slice A2 n2 c2, .string bp, .bool d.offline, .string ⟨#[]⟩, .string ⟨#[]⟩, .string nm, .slice A3 n3 c3]
    obtain ⟨A8, c8, h8, hb8, _⟩ := Hdat.out.keep (w' := wc.setRow (w.heap.size + 1) #[.int .i64 d.quota, .slice A1 n1 c1, .int .i64 d.workers, .int .i64 d.tries, .int .i64 d.patience, .int .i64 d.budget, .slice A2 n2 c2, .string bp, .bool d.offline, .string ⟨#[]⟩, .string ⟨#[]⟩, .string nm, .slice A3 n3 c3]) (fun k cur fr hk => by
      rw [setRow_other _ _ _ _ (by
        rintro rfl
        rw [Hr1.out] at hk
        cases hk)]
      exact hk)
    refine ⟨_, rfl, ?_, hBf⟩
    refine ⟨A1, A2, A8, c1, c2, c8, T, ⟨#[]⟩, ⟨#[]⟩, ?_, H1.out.keep (Cells.of_below hBf), H2.out.keep (Cells.of_below hBf), HT.out, by rw [← Hs.out.2.2]; exact hb8⟩
    rw [← Hn.out.1, ← Hn.out.2, ← Hs.out.1, ← Hs.out.2.1, ← Hs.out.2.2, ← h8]
    rfl
set_option maxRecDepth 100000 in
set_option maxHeartbeats 8000000 in
theorem sameOpts_any (w : World) (V1 V2 : Array Value) (d : OptD) (h1 : OpBox w V1 d) (h2 : OpBox w V2 d) : Calls Tryz.prog 10 #[.agg V1, .agg V2] w fun e w' => e = .returned (.bool true) ∧ Below w.heap.size w w' := by
  obtain ⟨A1, A2, A3, c1, c2, c3, T, kn, ks, rfl, hs1, hs2, hT, hs3⟩ := h1
  obtain ⟨B1, B2, B3, e1, e2, e3, T', kn', ks', rfl, ht1, ht2, hT', ht3⟩ := h2
  have hTT : T' = T := by
    rw [map_mkS' T _ hT, map_mkS' T' _ hT']
  subst hTT
  obtain ⟨n1, hn1⟩ : ∃ n, n = d.sizes.length := ⟨_, rfl⟩
  obtain ⟨n2, hn2⟩ : ∃ n, n = T'.length := ⟨_, rfl⟩
  obtain ⟨n3, hn3⟩ : ∃ n, n = d.secret.length := ⟨_, rfl⟩
  obtain ⟨bp, hbp⟩ : ∃ n, n = mkS d.bypass := ⟨_, rfl⟩
  obtain ⟨nm, hnm⟩ : ∃ n, n = mkS d.name := ⟨_, rfl⟩
  rw [← hn1, ← hn2, ← hn3, ← hbp, ← hnm]
  generalize d.quota = q1
  generalize d.workers = q2
  generalize d.tries = q3
  generalize d.patience = q4
  generalize d.budget = q5
  generalize d.offline = off
  have S1 := Lib.hid hs1
  have S2 := Lib.hid hs2
  have S3 := Lib.hid hs3
  have R1 := Lib.hid ht1
  have R2 := Lib.hid ht2
  have R3 := Lib.hid ht3
  have Hn := Lib.hid (And.intro hn1 (And.intro hn2 hn3))
  clear hs1 hs2 hs3 ht1 ht2 ht3 hT hT' hbp hnm hn1 hn2 hn3
  unfold opV
  go_enter Tryz.func10, Tryz.ntmps10
  go_wp2_with fail
  obtain ⟨x0, hx0⟩ : ∃ x0 : World, x0 = ((w.alloc (.cells #[.int .i64 q1, .slice A1 n1 c1, .int .i64 q2, .int .i64 q3, .int .i64 q4, .int .i64 q5, .slice A2 n2 c2, .string bp, .bool off, .string kn, .string ks, .string nm, .slice A3 n3 c3] 32)).alloc (.cells #[.int .i64 q1, .slice B1 n1 e1, .int .i64 q2, .int .i64 q3, .int .i64 q4, .int .i64 q5, .slice B2 n2 e2, .string bp, .bool off, .string kn', .string ks', .string nm, .slice B3 n3 e3] 32)) := ⟨_, rfl⟩
  rw [← hx0]
  have hB : Below w.heap.size w x0 := by rw [hx0]; exact ((Below.refl _ _).alloc (Nat.le_refl _) _).alloc (by simp) _
  have hr0 : x0.heap[w.heap.size]? = some (.cells #[.int .i64 q1, .slice A1 n1 c1, .int .i64 q2, .int .i64 q3, .int .i64 q4, .int .i64 q5, .slice A2 n2 c2, .string bp, .bool off, .string kn, .string ks, .string nm, .slice A3 n3 c3] 32 (0, 0)) := by rw [hx0, heap_alloc_if, if_neg (by simp), heap_alloc_if, if_pos rfl]
  have hr1 : x0.heap[w.heap.size + 1]? = some (.cells #[.int .i64 q1, .slice B1 n1 e1, .int .i64 q2, .int .i64 q3, .int .i64 q4, .int .i64 q5, .slice B2 n2 e2, .string bp, .bool off, .string kn', .string ks', .string nm, .slice B3 n3 e3] 32 (0, 0)) := by rw [hx0, heap_alloc_if, if_pos (by simp)]
  have hB' := Cells.of_below hB
  have S1 := Lib.hid (S1.out.keep hB')
  have S2 := Lib.hid (S2.out.keep hB')
  have S3 := Lib.hid (S3.out.keep hB')
  have R1 := Lib.hid (R1.out.keep hB')
  have R2 := Lib.hid (R2.out.keep hB')
  have R3 := Lib.hid (R3.out.keep hB')
  have HB := Lib.hid hB
  have k1 := (blk_cells hr0).1
  have k2 := (blk_cells hr1).1
  obtain ⟨ba, hba⟩ : ∃ ba, ba = w.heap.size := ⟨_, rfl⟩
  obtain ⟨bb, hbb⟩ : ∃ bb, bb = w.heap.size + 1 := ⟨_, rfl⟩
  rw [← hbb] at k2 ⊢
  rw [← hba] at k1 ⊢
  clear hx0 hB hr0 hr1 hB' hba hbb
  have hc1 := ints_self d.sizes A1 B1 c1 e1 x0 S1.out R1.out
  rw [← Hn.out.1] at hc1
  refine hc1.mono ?_
  rintro e y ⟨rfl, m1, rfl⟩
  clear hc1
  have hc2 := texts_any T' T' A2 B2 c2 e2 (x0.drewN m1) (S2.out.keep (Cells.drewN _ _)) (R2.out.keep (Cells.drewN _ _))
  rw [show decide (T' = T') = true by simp, ← Hn.out.2.1] at hc2
  have Hc2 := Lib.hid hc2
  clear hc2
  go_wp2_with fail
  refine Hc2.out.mono ?_
  rintro e y ⟨rfl, m2, rfl⟩
  have hc3 := same_any d.secret d.secret A3 B3 c3 e3 (x0.drewN (m1 + m2)) (S3.out.keep (Cells.drewN _ _)) (R3.out.keep (Cells.drewN _ _))
  rw [show (d.secret == d.secret) = true by simp, ← Hn.out.2.2] at hc3
  have Hc3 := Lib.hid hc3
  clear hc3 Hc2
  go_wp2_with fail
  refine Hc3.out.mono ?_
  rintro e y ⟨rfl, m3, rfl⟩
  have HBf := Lib.hid (below_drewN HB.out (m1 + m2 + m3))
  clear Hc3
  go_wp2_with fail
  go_ret
  exact ⟨rfl, HBf.out⟩
end Go.Proofs.YtlljjddgbilipaaGreatDoor
