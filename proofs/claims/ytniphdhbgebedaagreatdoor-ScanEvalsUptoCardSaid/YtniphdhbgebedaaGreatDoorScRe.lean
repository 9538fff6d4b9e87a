/-
  What the front of a text says: Read.
-/
import Derived.Test.YtniphdhbgebedaaGreatDoorScSc
import Derived.Shelf.RegionOpen
namespace Go.Proofs.YtniphdhbgebedaaGreatDoor
open Go.RowKit Go.Maps

set_option linter.unusedSimpArgs false

attribute [local go_sem] Oper.semAt_some
attribute [local go_sem] lt1 lt2 lt3 lt4 lt5 lt6 run_store_func run_store_nilFunc eql62 eql62n

def srcV (pkg : List UInt8) (sl : Value) (rule : List UInt8) : Value := .agg #[.string (mkS pkg), sl, .string (mkS rule)]
set_option maxRecDepth 100000 in
set_option maxHeartbeats 16000000 in
theorem read_long (w : World) (S : ByteArray) (h : 65536 < S.size) : Calls Tryz.prog 13 #[.string S] w fun e w' => e = .returned (.tuple #[srcV [] (.slice none 0 0) [], .int .i64 0, .int .i64 13]) ∧ Below w.heap.size w w' := by
  have hI : (65536 : Int) < S.size := by omega
  have hB := (Below.refl _ w).alloc (Nat.le_refl _) (.cells #[.string ⟨#[]⟩, .slice none 0 0, .string ⟨#[]⟩] 27)
  have HB := Lib.hid hB
  clear hB
  go_enter Tryz.func13, Tryz.ntmps13
  go_wp2_with fail
  refine bodyPost_ret (res_cell3 rfl _ _ w.heap.size 27 #[.string ⟨#[]⟩, .slice none 0 0, .string ⟨#[]⟩] (0, 0) rfl (heap_alloc_new _ _) Tryz.underlying27 rfl (by kernel_rfl)) rfl ?_
  exact ⟨rfl, HB.out⟩
def sortC (l : List (List UInt8)) : List (List UInt8) := Lib.compact (l.mergeSort fun x y => decide (x ≤ y))
/-- what Read tells: the front, the fault's line, its number -/
noncomputable def readR (s : List UInt8) : Src × Nat × Int := if 65536 < s.length then (src0, 0, 13) else match rdOf (toksL s) with
  | .fault l e _ => (src0, l, e)
  | .go _ d => ({ d with imports := sortC d.imports }, 0, 0)
  | .done d => ({ d with imports := sortC d.imports }, 0, 0)
theorem rd_few (s : List UInt8) {st : St} {d : Src} (h : rdOf (toksL s) = .go st d) (hl : s.length ≤ 65536) : d.imports.length ≤ 1048577 := by
  have h1 := rdL_imports _ _ _ _ _ _ _ h
  have h2 := toksF_len s.length ⟨s, 1, true⟩
  simp only [src0, List.length_nil] at h1
  unfold toksL at h1
  simp only at h2
  omega
theorem step_done (st : St) (d : Src) (t : Tok) {d' : Src} (h : stepR importOk ruleErr st d t = .done d') : d'.imports.length ≤ d.imports.length + 1 := by
  revert h
  cases st <;> simp only [stepR] <;> (repeat' split) <;> intro h <;> first | (cases h; done) | (cases h; simp)
theorem rdL_done : ∀ (ts : List Tok) (st : St) (d : Src) {d' : Src}, rdL importOk ruleErr st d ts = .done d' → d'.imports.length ≤ d.imports.length + ts.length
  | [], st, d, d', h => by cases h
  | t :: r, st, d, d', h => by
    rw [rdL] at h
    split at h
    · rename_i st1 d1 h1
      have ih := rdL_done r _ _ h
      have h2 := rdL_imports importOk ruleErr [t] st d st1 d1 (by rw [rdL, h1]; rfl)
      simp only [List.length_cons, List.length_nil] at h2 ⊢
      omega
    · have := step_done st d t h
      rw [List.length_cons]
      omega
theorem rd_few2 (s : List UInt8) {d : Src} (h : rdOf (toksL s) = .done d) (hl : s.length ≤ 65536) : d.imports.length ≤ 1048577 := by
  have h1 := rdL_done _ _ _ h
  have h2 := toksF_len s.length ⟨s, 1, true⟩
  simp only [src0, List.length_nil] at h1
  unfold toksL at h1
  simp only at h2
  omega
def RePost (w : World) (R : Src × Nat × Int) (e : Ending) (w' : World) : Prop := ∃ A c, e = .returned (.tuple #[srcV R.1.pkg (.slice A R.1.imports.length c) R.1.rule, .int .i64 (R.2.1 : Nat), .int .i64 R.2.2]) ∧ SlF w.heap.size w' A c R.1.imports.length 1 (strs R.1.imports) ∧ Below w.heap.size w w'
theorem step_fault (st : St) (d : Src) (t : Tok) {l : Nat} {e : Int} {d' : Src} (h : stepR importOk ruleErr st d t = .fault l e d') : e ≠ 0 := by
  revert h
  cases st <;> simp only [stepR] <;> (repeat' split) <;> intro h <;> first | (cases h; done) | (cases h; decide) | (cases h; assumption)
theorem rdL_fault : ∀ (ts : List Tok) (st : St) (d : Src) {l : Nat} {e : Int} {d' : Src}, rdL importOk ruleErr st d ts = .fault l e d' → e ≠ 0
  | [], st, d, l, e, d', h => by cases h
  | t :: r, st, d, l, e, d', h => by
    rw [rdL] at h
    split at h
    · exact rdL_fault r _ _ h
    · exact step_fault st d t h
theorem bel_put {w V : World} {n D : Nat} (h : Below n w V) (hD : n ≤ D) (o : Obj) : Below n w (V.putObj D o) := ⟨h.os, h.tape, h.output, by rw [World.putObj_size]; exact h.size, fun k hk => (World.putObj_heap_other (by omega)).trans (h.block k hk)⟩
set_option maxRecDepth 100000 in
set_option maxHeartbeats 16000000 in
theorem read_go (w : World) (s : List UInt8) (hg : Glob w) (h : s.length ≤ 65536) : Calls Tryz.prog 13 #[.string (mkS s)] w (RePost w (readR s)) := by
  obtain ⟨S, hS⟩ : ∃ S, mkS s = S := ⟨_, rfl⟩
  rw [hS]
  have hSz : S.size = s.length := by rw [← hS]; simp [mkS, ByteArray.size]
  have hI : ¬ (65536 : Int) < S.size := by omega
  obtain ⟨x3, hx3⟩ : ∃ x, x = ((w.alloc (.cells #[.string ⟨#[]⟩, .slice none 0 0, .string ⟨#[]⟩] 27)).alloc (.cells #[.string ⟨#[]⟩, .slice none 0 0, .string ⟨#[]⟩, .nilFunc, .int .i64 0, .int .i64 0] 64)).alloc (.cells #[.pointer (some ⟨w.heap.size + 1, 0, none⟩)] 61) := ⟨_, rfl⟩
  obtain ⟨x, hx⟩ : ∃ x, x = x3.drew := ⟨_, rfl⟩
  have hBx : Below w.heap.size w x := by rw [hx, hx3]; exact below_drewN ((((Below.refl _ w).alloc (Nat.le_refl _) _).alloc (by simp) _).alloc (by simp; omega) _) 1
  have hxs : x.heap.size = w.heap.size + 3 := by rw [hx, hx3]; simp
  have hq0 : x.heap[w.heap.size]? = some (.cells #[.string ⟨#[]⟩, .slice none 0 0, .string ⟨#[]⟩] 27 (0, 0)) := by
    rw [hx, hx3]; exact (Below.heap_alloc _ _ _ (by simp; omega)).trans ((Below.heap_alloc _ _ _ (by simp)).trans (heap_alloc_new _ _))
  have hr0 : x.heap[w.heap.size + 1]? = some (.cells #[.string ⟨#[]⟩, .slice none 0 0, .string ⟨#[]⟩, .nilFunc, .int .i64 0, .int .i64 0] 64 (0, 0)) := by
    rw [hx, hx3]
    refine (Below.heap_alloc _ _ _ (by simp)).trans ?_
    have := heap_alloc_new (w.alloc (.cells #[.string ⟨#[]⟩, .slice none 0 0, .string ⟨#[]⟩] 27)) (.cells #[.string ⟨#[]⟩, .slice none 0 0, .string ⟨#[]⟩, .nilFunc, .int .i64 0, .int .i64 0] 64)
    rwa [World.size_alloc] at this
  have hp0 : x.heap[w.heap.size + 1 + 1]? = some (.cells #[rP (w.heap.size + 1)] 61 (0, 0)) := by
    rw [hx, hx3]
    have := heap_alloc_new ((w.alloc (.cells #[.string ⟨#[]⟩, .slice none 0 0, .string ⟨#[]⟩] 27)).alloc (.cells #[.string ⟨#[]⟩, .slice none 0 0, .string ⟨#[]⟩, .nilFunc, .int .i64 0, .int .i64 0] 64)) (.cells #[.pointer (some ⟨w.heap.size + 1, 0, none⟩)] 61)
    rwa [World.size_alloc, World.size_alloc] at this
  obtain ⟨q0, hq⟩ : ∃ q, w.heap.size = q := ⟨_, rfl⟩
  have cp0 : x.cell? ⟨w.heap.size + 1 + 1, 0, none⟩ = some (.pointer (some ⟨w.heap.size + 1, 0, none⟩)) := (blk_cells hp0).1 0
  have hbegin := begin_any x (w.heap.size + 1)
  have HX3 := Lib.hid hx3
  have HX := Lib.hid hx
  have HBx := Lib.hid hBx
  have Hq0 := Lib.hid hq0
  have Hr0 := Lib.hid hr0
  have Hp0 := Lib.hid hp0
  have HBeg := Lib.hid hbegin
  have Hxs := Lib.hid hxs
  clear hx3 hx hBx hq0 hr0 hp0 hbegin hq hxs
  have HSz := Lib.hid hSz
  have HS := Lib.hid hS
  have Hg := Lib.hid hg
  clear hSz hS hg
  refine (callsIn_wide (n := 5)).1 ?_
  refine callsIn_of_wp_marks Tryz.func13 rfl trivial ?_ rfl
  simp only [Tryz.ntmps13, List.size_toArray, List.length_cons, List.length_nil, Nat.reduceAdd, Nat.reduceSub, Array.replicate_succ, Array.replicate_zero, List.push_toArray, List.append_toArray, List.nil_append, List.cons_append]
  refine wpIn_wide.2 ?_
  go_wp2_with fail
  rw [← HX3.out]
  with_reducible refine g_mixx [(0, 0), (1, 0), (2, 2), (3, 1), (4, 1), (5, 3)] (fun w' => w'.cell? ⟨w.heap.size + 1 + 1, 0, none⟩ = some (.pointer (some ⟨w.heap.size + 1, 0, none⟩))) 0 _ rfl (by kernel_rfl) (by kernel_rfl) ?_ ?_
  · rw [← HX.out]; exact cp0
  rw [← HX.out]
  intro OPS HD
  simp only [mixX, nthO, consX]
  iterate 2 ((with_reducible refine x_val (v := ?_) ?_ ?_ ?_); rotate_left; (rintro _ h1; go_simp; first | done | rfl | (constructor <;> rfl)); exact cp0)
  with_reducible refine x_one ?_
  refine l_call ?_ (HBeg.out.mono ?_)
  · go_simp
    rfl
  rintro e y ⟨v, rfl, hB, hS⟩
  refine ⟨_, rfl, ?_⟩
  have hxlt := World.block_lt_of_cell? _ _ cp0
  simp only at hxlt
  refine x_keep (below_cell hB hxlt cp0) ?_
  have hry := (hB.block _ (lt_of_heap Hr0.out)).trans Hr0.out
  have cy : y.cell? ⟨w.heap.size + 1, 3, none⟩ = some .nilFunc := (blk_cells hry).1 3
  have fy : y.frozen? ⟨w.heap.size + 1, 3, none⟩ = false := (blk_cells hry).2.1 3
  obtain ⟨fv, cv, hfv⟩ := StepAt.func hS
  have hnew := reader_new (w := w) Hr0.out (by omega) hB hS
  have hys : x.heap.size ≤ y.heap.size := hB.size
  obtain ⟨z, hz⟩ : ∃ z, z = y.setCell ⟨w.heap.size + 1, 3, none⟩ v := ⟨_, rfl⟩
  have hFz : Fr [w.heap.size + 1] y z := by rw [hz]; exact Fr.setCell _ _ _ _ (by simp)
  have hBy : Below w.heap.size w y := HBx.out.trans (hB.mono HBx.out.size)
  have hBz : Below w.heap.size w z := hBy.trans (hFz.below hBy.size (by simp))
  have hpz : z.heap[w.heap.size + 1 + 1]? = some (.cells #[rP (w.heap.size + 1)] 61 (0, 0)) := (hFz.block _ (by omega) (by simp)).trans ((hB.block _ hxlt).trans Hp0.out)
  have hqz : z.heap[w.heap.size]? = some (.cells #[.string ⟨#[]⟩, .slice none 0 0, .string ⟨#[]⟩] 27 (0, 0)) := (hFz.block _ (by omega) (by simp)).trans ((hB.block _ (by omega)).trans Hq0.out)
  rw [← hz] at hnew
  obtain ⟨zl, hzl⟩ : ∃ zl, z.alloc (.cells #[.string S] 9) = zl := ⟨_, rfl⟩
  have hBl : Below z.heap.size z zl := by rw [← hzl]; exact (Below.refl _ z).alloc (Nat.le_refl _) _
  have hst : RdSt zl (fun k => k = w.heap.size + 1 ∨ (x.heap.size ≤ k ∧ k < y.heap.size)) (w.heap.size + 1) src0 (some .begin_) 0 0 := by
    have hlt : ∀ k, (k = w.heap.size + 1 ∨ (x.heap.size ≤ k ∧ k < y.heap.size)) → k < z.heap.size := by obtain ⟨_, _, _, hO, _⟩ := hnew; exact hO.lt
    exact hnew.keep hBl.size fun k hk => hBl.block k (hlt k hk)
  have hsl : zl.cell? ⟨z.heap.size, 0, none⟩ = some (.string S) := by rw [← hzl]; exact (blk_cells (heap_alloc_new z _)).1 0
  have hpl := (hBl.block _ (lt_of_heap hpz)).trans hpz
  have hql := (hBl.block _ (lt_of_heap hqz)).trans hqz
  have hBwl : Below w.heap.size w zl := hBz.trans (hBl.mono hBz.size)
  have HSt := Lib.hid hst
  have HSl := Lib.hid hsl
  have HPl := Lib.hid hpl
  have HQl := Lib.hid hql
  have HBwl := Lib.hid hBwl
  have HZ := Lib.hid hz
  have HZl := Lib.hid hzl
  have Hfv := Lib.hid hfv
  have hxs := Hxs.out
  have hzls : Hid (w.heap.size < zl.heap.size) := Lib.hid (lt_of_heap HQl.out)
  clear hB hS hry hnew hz hFz hBy hBz hpz hqz hBl hst hsl hpl hql hBwl hzl hfv HBeg HX3 HX HBx Hq0 Hr0 Hp0 cp0
  iterate 2 ((with_reducible refine x_any (v := ?_) ?_ ?_); rotate_left; (rintro _; go_simp; first | done | rfl | (constructor <;> rfl)))
  with_reducible refine x_three ?_
  with_reducible refine l_skip (w' := z) ?_ ?_
  · rw [HZ.out, Hfv.out]; go_simp
  with_reducible refine x_last ?_
  with_reducible refine x_end ?_
  simp only [Act.put, List.setIfInBounds_toArray, List.set_cons_zero, List.set_cons_succ]
  clear cy fy HD
  go_wp2_with fail
  refine (tokens_any S z).mono ?_
  rintro e z1 ⟨rfl, hz1⟩
  rw [← hz1, HZl.out]
  clear hz1
  go_wp2_with fail
  refine (wpIn_wide (n := 5)).1 ?_
  have hrl : ∀ k, (k = w.heap.size + 1 ∨ (x.heap.size ≤ k ∧ k < y.heap.size)) → w.heap.size ≤ k ∧ k ≠ w.heap.size ∧ k ≠ w.heap.size + 1 + 1 := by rintro k (rfl | hk) <;> omega
  refine read_range w (w.heap.size + 1) (w.heap.size + 1 + 1) w.heap.size z.heap.size s _ (by omega) rfl rfl h Hg.out (by omega) (Nat.le_refl _) (by rw [HS.out]; exact HSl.out) HSt.out hrl HBwl.out HPl.out HQl.out ?round ?done (fun a w h => by simpa [Exit.inBlock] using h)
  case round =>
    clear HSt HSl HPl HQl HBwl HZ HZl Hfv hxs hxlt hys Hxs hrl
    rintro c hr hp t W
    unfold tokA tokO
    gi_wp2
    refine ⟨by first | trivial | rfl, ?_⟩
    intro W2 f cap C Go Stop h1 h2 h3 h4 h5 h6
    try rw [hp] at h1
    try rw [hr] at h1
    try rw [hr] at h2
    try simp only [hp, hr] at h6
    have k0 := (blk_cells h3).1 0
    have k1 := (blk_cells h3).1 1
    have k2 := (blk_cells h3).1 2
    have H5 := Lib.hid h5
    have H6 := Lib.hid h6
    have H3 := Lib.hid h3
    have hWs := lt_of_heap h3
    clear h5 h6 h3
    have hmx : Tryz.prog.follows .mixedOrders = true := by kernel_rfl
    have hd : 1 ≤ 5 - 1 - 1 := by omega
    gi_wp2
    gi_region_with_o (refine ⟨trivial, (CallsIn.inRound c.L (callsIn_wide.2 H5.out)).mono ?_⟩; intro e W3 hC; obtain ⟨u, v', rfl, p1, p2, p3⟩ := H6.out e W3 hC)
    all_goals (rcases p3 with ⟨rfl, hs⟩ | ⟨⟨f2, c2, rfl⟩, hgo⟩)
    all_goals gi_wp2
    all_goals first | assumption | exact Or.inr ⟨rfl, by assumption⟩ | exact Or.inl ⟨rfl, by assumption⟩
  case done =>
    intro W rx hrx hfin
    clear HSt HSl HPl HQl HBwl HZ HZl Hfv hxs hxlt hys Hxs hrl
    obtain ⟨O, hnx, hge, hbel, hpb, hqb, hdb⟩ := hfin
    have hcase : (∃ ln er d, rx = .fault ln er d) ∨ ∃ d so, RdSt W O (w.heap.size + 1) d so 0 0 ∧ readR s = ({ d with imports := sortC d.imports }, 0, 0) ∧ d.imports.length ≤ 1048577 := by
      cases rx with
      | fault ln er d => exact .inl ⟨_, _, _, rfl⟩
      | go st d => exact .inr ⟨d, _, hnx, by unfold readR; rw [if_neg (by omega), hrx], rd_few s hrx h⟩
      | done d => exact .inr ⟨d, _, hnx, by unfold readR; rw [if_neg (by omega), hrx], rd_few2 s hrx h⟩
    rcases hcase with ⟨ln, er, d, rfl⟩ | ⟨d, so, hst, hrR, hfew⟩
    · obtain ⟨P, sl, v', hO, hC, hS⟩ := hnx
      have hne : (er != 0) = true := by
        rw [bne_iff_ne]
        exact rdL_fault _ _ _ hrx
      have hrR : readR s = (src0, ln, er) := by unfold readR; rw [if_neg (by omega), hrx]
      have HRR := Lib.hid hrR
      clear hrR
      have p0 : W.cell? ⟨w.heap.size + 1 + 1, 0, none⟩ = some (.pointer (some ⟨w.heap.size + 1, 0, none⟩)) := (blk_cells hpb).1 0
      have r4 : W.cell? ⟨w.heap.size + 1, 4, none⟩ = some (.int .i64 (ln : Nat)) := (blk_cells hC).1 4
      have r5 : W.cell? ⟨w.heap.size + 1, 5, none⟩ = some (.int .i64 er) := (blk_cells hC).1 5
      have Hqb := Lib.hid hqb
      have Hdb := Lib.hid hdb
      have Hbel := Lib.hid hbel
      have HCc := Lib.hid hC
      clear hge hbel hpb hqb hdb hO hC hS
      simp only [Exit.inBlock, Exit.then]
      go_wp2_with fail
      with_reducible refine g_mixx [(0, 1), (1, 0), (2, 1), (3, 1), (4, 0), (5, 0), (6, 1), (7, 1), (8, 0), (9, 2), (10, 1), (11, 1)] (fun w' => w'.cell? ⟨w.heap.size + 1 + 1, 0, none⟩ = some (.pointer (some ⟨w.heap.size + 1, 0, none⟩)) ∧ w'.cell? ⟨w.heap.size + 1, 4, none⟩ = some (.int .i64 (ln : Nat)) ∧ w'.cell? ⟨w.heap.size + 1, 5, none⟩ = some (.int .i64 er)) 0 _ rfl (by kernel_rfl) (by kernel_rfl) ?_ ?_
      · exact ⟨p0, r4, r5⟩
      intro OPS2 HD2
      simp only [mixX, nthO, consX]
      iterate 1 ((with_reducible refine x_any (v := ?_) ?_ ?_); rotate_left; (rintro _; go_simp; first | done | rfl | (constructor <;> rfl)))
      iterate 1 ((with_reducible refine x_val (v := ?_) ?_ ?_ ?_); rotate_left; (rintro _ ⟨h1, h2, h3⟩; go_simp; first | done | rfl | (constructor <;> rfl)); exact ⟨p0, r4, r5⟩)
      iterate 2 ((with_reducible refine x_any (v := ?_) ?_ ?_); rotate_left; (rintro _; go_simp; first | done | rfl | (constructor <;> rfl)))
      iterate 2 ((with_reducible refine x_val (v := ?_) ?_ ?_ ?_); rotate_left; (rintro _ ⟨h1, h2, h3⟩; go_simp; first | done | rfl | (constructor <;> rfl)); exact ⟨p0, r4, r5⟩)
      iterate 2 ((with_reducible refine x_any (v := ?_) ?_ ?_); rotate_left; (rintro _; go_simp; first | done | rfl | (constructor <;> rfl)))
      iterate 1 ((with_reducible refine x_val (v := ?_) ?_ ?_ ?_); rotate_left; (rintro _ ⟨h1, h2, h3⟩; go_simp; first | done | rfl | (constructor <;> rfl)); exact ⟨p0, r4, r5⟩)
      with_reducible refine x_one ?_
      refine wpList_store_row rfl 27 _ _ rfl w.heap.size #[.string ⟨#[]⟩, .slice none 0 0, .string ⟨#[]⟩] (by go_simp) (by go_simp) 27 #[.string ⟨#[]⟩, .slice none 0 0, .string ⟨#[]⟩] Hqb.out (by kernel_rfl) rfl (by simp [Value.oneCell']) ?_
      obtain ⟨V, hV⟩ : ∃ V, V = W.drew.setRow w.heap.size #[.string ⟨#[]⟩, .slice none 0 0, .string ⟨#[]⟩] := ⟨_, rfl⟩
      rw [← hV]
      have hVo : ∀ k, k ≠ w.heap.size → V.heap[k]? = W.heap[k]? := fun k hk => by rw [hV]; exact setRow_other _ _ _ _ hk
      have hVq : V.heap[w.heap.size]? = some (.cells #[.string ⟨#[]⟩, .slice none 0 0, .string ⟨#[]⟩] 27 (0, 0)) := by rw [hV]; exact setRow_heap _ _ _ _ _ _ Hqb.out
      have p0' : V.cell? ⟨w.heap.size + 1 + 1, 0, none⟩ = some (.pointer (some ⟨w.heap.size + 1, 0, none⟩)) := (World.cell?_of_block (hVo _ (by simp only; omega))).trans p0
      have r4' : V.cell? ⟨w.heap.size + 1, 4, none⟩ = some (.int .i64 (ln : Nat)) := (World.cell?_of_block (hVo _ (by simp only; omega))).trans r4
      have r5' : V.cell? ⟨w.heap.size + 1, 5, none⟩ = some (.int .i64 er) := (World.cell?_of_block (hVo _ (by simp only; omega))).trans r5
      have hVD : V.heap[zl.heap.size]? = some (.deferred (some [])) := (hVo _ (by have := hzls.out; omega)).trans Hdb.out
      have hVB : Below w.heap.size w V := by
        have := Hbel.out
        rw [hV]
        exact ⟨this.os, this.tape, this.output, by rw [setRow_size]; exact this.size, fun k hk => (setRow_other _ _ _ _ (by omega)).trans (this.block k hk)⟩
      refine x_keep ⟨p0', r4', r5'⟩ ?_
      iterate 2 ((with_reducible refine x_any (v := ?_) ?_ ?_); rotate_left; (rintro _; go_simp; first | done | rfl | (constructor <;> rfl)))
      with_reducible refine x_end ?_
      simp only [Act.put, List.setIfInBounds_toArray, List.set_cons_zero, List.set_cons_succ]
      have HVq := Lib.hid hVq
      have HVD := Lib.hid hVD
      have HVB := Lib.hid hVB
      clear HD2 p0 r4 r5 p0' r4' r5' hVo hVq hVD hVB hV Hqb Hdb
      go_wp2_with fail
      refine ⟨by simp, .inl ⟨_, _, rfl, run_takeDeferred HVD.out, ?_⟩⟩
      have hD : w.heap.size ≤ zl.heap.size := Nat.le_of_lt hzls.out
      refine ⟨_, res_cell3 rfl _ _ w.heap.size 27 #[.string ⟨#[]⟩, .slice none 0 0, .string ⟨#[]⟩] (0, 0) rfl ((World.putObj_heap_other (by have := hzls.out; omega)).trans HVq.out) Tryz.underlying27 rfl (by kernel_rfl), ?_⟩
      rw [HRR.out]
      exact ⟨none, 0, rfl, ⟨⟨rfl, by simp [src0], Nat.le_refl _, by simp, fun h => absurd h (by simp [src0])⟩, fun a ha => by cases ha⟩, bel_put HVB.out hD _⟩
    · obtain ⟨P, sl, v', hO, hC, hS⟩ := hst
      obtain ⟨A, cap, rfl, hRow, hown⟩ := RowH.of_own hO.row
      have hb : ∀ a, A = some a → a.block ≠ w.heap.size + 1 ∧ a.block ≠ w.heap.size ∧ a.block ≠ w.heap.size + 1 + 1 ∧ a.block ≠ zl.heap.size ∧ w.heap.size ≤ a.block := fun a ha => by
        obtain ⟨h1, h2, h3⟩ := hO.blk _ (hown a ha)
        have := hge _ h1
        exact ⟨h2, this.2.1, this.2.2.1, this.2.2.2, this.1⟩
      have p0 : W.cell? ⟨w.heap.size + 1 + 1, 0, none⟩ = some (.pointer (some ⟨w.heap.size + 1, 0, none⟩)) := (blk_cells hpb).1 0
      have r1 : W.cell? ⟨w.heap.size + 1, 1, none⟩ = some (.slice A d.imports.length cap) := (blk_cells hC).1 1
      have r5 : W.cell? ⟨w.heap.size + 1, 5, none⟩ = some (.int .i64 0) := (blk_cells hC).1 5
      have hrl := lt_of_heap hC
      have hpl := lt_of_heap hpb
      have hql := lt_of_heap hqb
      have hDl := lt_of_heap hdb
      have hge2 := hbel.size
      have Hqb := Lib.hid hqb
      have Hdb := Lib.hid hdb
      have Hbel := Lib.hid hbel
      have HCc := Lib.hid hC
      have Hb := Lib.hid hb
      have HRow := Lib.hid hRow
      have HrR := Lib.hid hrR
      have Hpb := Lib.hid hpb
      clear hge hbel hpb hqb hdb hO hC hS hb hRow hrR hown hnx
      simp only [Exit.inBlock, Exit.then]
      go_wp2_with fail
      refine (sort_any W A cap _ HRow.out hfew).mono ?_
      rintro e W1 ⟨rfl, hRow1, hFr1⟩
      have hk1 : ∀ k, k < W.heap.size → (k = w.heap.size + 1 ∨ k = w.heap.size ∨ k = w.heap.size + 1 + 1 ∨ k = zl.heap.size ∨ k < w.heap.size) → W1.heap[k]? = W.heap[k]? := fun k hk h => hFr1.2.2.2.2 k hk fun a ha => by
        have := Hb.out a ha
        omega
      obtain ⟨L1, hL1⟩ : ∃ L1, (d.imports.mergeSort fun x y => decide (x ≤ y)) = L1 := ⟨_, rfl⟩
      have hL1l : L1.length = d.imports.length := by rw [← hL1]; simp
      rw [hL1] at hRow1
      obtain ⟨y1, hy1⟩ : ∃ y, y = W1.drew := ⟨_, rfl⟩
      have p1 : y1.cell? ⟨w.heap.size + 1 + 1, 0, none⟩ = some (.pointer (some ⟨w.heap.size + 1, 0, none⟩)) := by rw [hy1]; exact (World.cell?_of_block (hk1 _ hpl (by simp))).trans p0
      have q1 : y1.cell? ⟨w.heap.size + 1, 1, none⟩ = some (.slice A L1.length cap) := by rw [hy1, hL1l]; exact (World.cell?_of_block (hk1 _ hrl (by simp))).trans r1
      have hRy : RowH y1 A cap L1 := by rw [hy1]; exact ⟨hRow1.le, hRow1.big, hRow1.nil, hRow1.holds⟩
      have hcp := compact_any y1 A cap L1 hRy (by omega)
      have hlim := p0
      have HR1 := Lib.hid (show RdC y1 (w.heap.size + 1) d (.slice A d.imports.length cap) v' 0 0 from by rw [hy1]; exact (hk1 _ hrl (by simp)).trans HCc.out)
      have Hq1 := Lib.hid (show y1.heap[w.heap.size]? = some (.cells #[.string ⟨#[]⟩, .slice none 0 0, .string ⟨#[]⟩] 27 (0, 0)) from by rw [hy1]; exact (hk1 _ hql (by simp)).trans Hqb.out)
      have Hd1 := Lib.hid (show y1.heap[zl.heap.size]? = some (.deferred (some [])) from by rw [hy1]; exact (hk1 _ hDl (by simp)).trans Hdb.out)
      have Hp1 := Lib.hid (show y1.heap[w.heap.size + 1 + 1]? = some (.cells #[rP (w.heap.size + 1)] 61 (0, 0)) from by rw [hy1]; exact (hk1 _ hpl (by simp)).trans Hpb.out)
      have Hbel1 := Lib.hid (show Below w.heap.size w y1 from by
        have hb := Hbel.out
        rw [hy1]
        exact ⟨hFr1.1.trans hb.os, hFr1.2.1.trans hb.tape, hFr1.2.2.1.trans hb.output, Nat.le_trans hb.size hFr1.2.2.2.1, fun k hk => (hk1 k (by omega) (by simp [hk])).trans (hb.block k hk)⟩)
      have HCp := Lib.hid hcp
      have HY1 := Lib.hid hy1
      have HL1 := Lib.hid hL1
      have HL1l := Lib.hid hL1l
      clear hk1 hFr1 hRow1 hRy hcp hy1 p0 r1 r5 hlim hL1 hL1l Hqb Hdb Hbel HCc HRow Hpb hrl hpl hql hDl hge2
      go_wp2_with fail
      with_reducible refine g_mixx [(0, 0), (1, 0), (2, 1), (3, 1), (4, 1), (5, 0), (6, 2), (7, 1), (8, 1), (9, 1), (10, 3)] (fun w' => w'.cell? ⟨w.heap.size + 1 + 1, 0, none⟩ = some (.pointer (some ⟨w.heap.size + 1, 0, none⟩)) ∧ w'.cell? ⟨w.heap.size + 1, 1, none⟩ = some (.slice A L1.length cap)) 0 _ rfl (by kernel_rfl) (by kernel_rfl) ?_ ?_
      · rw [← HY1.out]; exact ⟨p1, q1⟩
      rw [← HY1.out]
      intro OPS2 HD2
      simp only [mixX, nthO, consX]
      iterate 2 ((with_reducible refine x_val (v := ?_) ?_ ?_ ?_); rotate_left; (rintro _ ⟨h1, h2⟩; go_simp; first | done | rfl | (constructor <;> rfl)); exact ⟨p1, q1⟩)
      iterate 3 ((with_reducible refine x_any (v := ?_) ?_ ?_); rotate_left; (rintro _; go_simp; first | done | rfl | (constructor <;> rfl)))
      iterate 1 ((with_reducible refine x_val (v := ?_) ?_ ?_ ?_); rotate_left; (rintro _ ⟨h1, h2⟩; go_simp; first | done | rfl | (constructor <;> rfl)); exact ⟨p1, q1⟩)
      with_reducible refine x_one ?_
      refine l_call ?_ (HCp.out.mono ?_)
      · go_simp
      rintro e W2 ⟨rfl, hRow2, hFr2⟩
      refine ⟨_, rfl, ?_⟩
      have hk2 : ∀ k, k < y1.heap.size → (k = w.heap.size + 1 ∨ k = w.heap.size ∨ k = w.heap.size + 1 + 1 ∨ k = zl.heap.size ∨ k < w.heap.size) → W2.heap[k]? = y1.heap[k]? := fun k hk h => hFr2.2.2.2.2 k hk fun a ha => by
        have := Hb.out a ha
        omega
      have hR2 : RdC W2 (w.heap.size + 1) d (.slice A d.imports.length cap) v' 0 0 := (hk2 _ (lt_of_heap HR1.out) (by simp)).trans HR1.out
      have hq2 := (hk2 _ (lt_of_heap Hq1.out) (by simp)).trans Hq1.out
      have hd2 := (hk2 _ (lt_of_heap Hd1.out) (by simp)).trans Hd1.out
      have hp2 := (hk2 _ (lt_of_heap Hp1.out) (by simp)).trans Hp1.out
      have hbel2 : Below w.heap.size w W2 := by
        have hb := Hbel1.out
        exact ⟨hFr2.1.trans hb.os, hFr2.2.1.trans hb.tape, hFr2.2.2.1.trans hb.output, Nat.le_trans hb.size hFr2.2.2.2.1, fun k hk => (hk2 k (Nat.lt_of_lt_of_le hk hb.size) (by simp [hk])).trans (hb.block k hk)⟩
      have p2 : W2.cell? ⟨w.heap.size + 1 + 1, 0, none⟩ = some (.pointer (some ⟨w.heap.size + 1, 0, none⟩)) := (blk_cells hp2).1 0
      have q2 : W2.cell? ⟨w.heap.size + 1, 1, none⟩ = some (.slice A L1.length cap) := by rw [HL1l.out]; exact (blk_cells hR2).1 1
      have f2 : W2.frozen? ⟨w.heap.size + 1, 1, none⟩ = false := (blk_cells hR2).2.1 1
      refine x_keep ⟨p2, q2⟩ ?_
      obtain ⟨Lc, hLc⟩ : ∃ Lc, Lib.compact L1 = Lc := ⟨_, rfl⟩
      rw [hLc] at hRow2
      rw [hLc]
      obtain ⟨z2, hz2⟩ : ∃ z, z = W2.setCell ⟨w.heap.size + 1, 1, none⟩ (.slice A Lc.length cap) := ⟨_, rfl⟩
      have hR3 : z2.heap[w.heap.size + 1]? = some (.cells #[.string (mkS d.pkg), .slice A Lc.length cap, .string (mkS d.rule), v', .int .i64 (0 : Nat), .int .i64 0] 64 (0, 0)) := by rw [hz2, heap_setCell_at hR2]; rfl
      have hFz2 : Fr [w.heap.size + 1] W2 z2 := by rw [hz2]; exact Fr.setCell _ _ _ _ (by simp)
      have hzlne : zl.heap.size ≠ w.heap.size + 1 := fun e => by
        rw [e] at hd2
        rw [hR2] at hd2
        cases hd2
      have hq3 := (hFz2.block _ (lt_of_heap hq2) (by simp)).trans hq2
      have hp3 := (hFz2.block _ (lt_of_heap hp2) (by simp)).trans hp2
      have hd3 := (hFz2.block _ (lt_of_heap hd2) (by simp; exact hzlne)).trans hd2
      have hbel3 : Below w.heap.size w z2 := hbel2.trans (hFz2.below hbel2.size (by simp))
      have hbA : ∀ a, A = some a → a.block ≠ w.heap.size + 1 := fun a ha => (Hb.out a ha).1
      have hSl3 : Sl z2 A cap Lc.length 1 (strs Lc) := ⟨hRow2.sl.len, hRow2.sl.nil, hRow2.sl.le, hRow2.sl.big, fun h => by
        obtain ⟨b, o, rfl, hx⟩ := hRow2.sl.cells h
        refine ⟨b, o, rfl, fun j hj => ?_⟩
        have hc := hx j hj
        have hlt : b < W2.heap.size := by
          have : j < (strs Lc).length := by rw [hRow2.sl.len]; exact hj
          rw [List.getElem?_eq_getElem this] at hc
          exact World.block_lt_of_cell? _ _ hc
        exact (World.cell?_of_block (hFz2.block b hlt (by simp; exact hbA _ rfl))).trans hc⟩
      have p3 : z2.cell? ⟨w.heap.size + 1 + 1, 0, none⟩ = some (.pointer (some ⟨w.heap.size + 1, 0, none⟩)) := (blk_cells hp3).1 0
      have s0 : z2.cell? ⟨w.heap.size + 1, 0, none⟩ = some (.string (mkS d.pkg)) := (blk_cells hR3).1 0
      have s1 : z2.cell? ⟨w.heap.size + 1, 1, none⟩ = some (.slice A Lc.length cap) := (blk_cells hR3).1 1
      have s2 : z2.cell? ⟨w.heap.size + 1, 2, none⟩ = some (.string (mkS d.rule)) := (blk_cells hR3).1 2
      have u0 : z2.cell? ⟨w.heap.size, 0, none⟩ = some (.string ⟨#[]⟩) := (blk_cells hq3).1 0
      have u1 : z2.cell? ⟨w.heap.size, 1, none⟩ = some (.slice none 0 0) := (blk_cells hq3).1 1
      have u2 : z2.cell? ⟨w.heap.size, 2, none⟩ = some (.string ⟨#[]⟩) := (blk_cells hq3).1 2
      have g0 : z2.frozen? ⟨w.heap.size, 0, none⟩ = false := (blk_cells hq3).2.1 0
      have g1 : z2.frozen? ⟨w.heap.size, 1, none⟩ = false := (blk_cells hq3).2.1 1
      have g2 : z2.frozen? ⟨w.heap.size, 2, none⟩ = false := (blk_cells hq3).2.1 2
      have HZ2 := Lib.hid hz2
      have Hq3 := Lib.hid hq3
      have Hd3 := Lib.hid hd3
      have Hbel3 := Lib.hid hbel3
      have HSl3 := Lib.hid hSl3
      have HLc := Lib.hid hLc
      clear hk2 hFr2 hRow2 hR2 hq2 hd2 hp2 hbel2 hz2 hR3 hFz2 hq3 hp3 hd3 hbel3 hbA hSl3 hLc p1 q1 HR1 Hq1 Hd1 Hp1 Hbel1 HCp hzlne
      iterate 3 ((with_reducible refine x_any (v := ?_) ?_ ?_); rotate_left; (rintro _; go_simp; first | done | rfl | (constructor <;> rfl)))
      with_reducible refine x_three ?_
      with_reducible refine l_skip (w' := z2) ?_ ?_
      · rw [HZ2.out]; go_simp
      with_reducible refine x_last ?_
      with_reducible refine x_end ?_
      simp only [Act.put, List.setIfInBounds_toArray, List.set_cons_zero, List.set_cons_succ]
      clear HD2 p2 q2 f2
      go_wp2_with fail
      have hm1 : (z2.setCell ⟨w.heap.size, 0, none⟩ (.string (mkS d.pkg))).heap[w.heap.size]? = some (.cells #[.string (mkS d.pkg), .slice none 0 0, .string ⟨#[]⟩] 27 (0, 0)) := by rw [heap_setCell_at Hq3.out]; rfl
      have hm2 : ((z2.setCell ⟨w.heap.size, 0, none⟩ (.string (mkS d.pkg))).setCell ⟨w.heap.size, 1, none⟩ (.slice A Lc.length cap)).heap[w.heap.size]? = some (.cells #[.string (mkS d.pkg), .slice A Lc.length cap, .string ⟨#[]⟩] 27 (0, 0)) := by rw [heap_setCell_at hm1]; rfl
      have hm3 : (((z2.setCell ⟨w.heap.size, 0, none⟩ (.string (mkS d.pkg))).setCell ⟨w.heap.size, 1, none⟩ (.slice A Lc.length cap)).setCell ⟨w.heap.size, 2, none⟩ (.string (mkS d.rule))).heap[w.heap.size]? = some (.cells #[.string (mkS d.pkg), .slice A Lc.length cap, .string (mkS d.rule)] 27 (0, 0)) := by rw [heap_setCell_at hm2]; rfl
      have hFm : Fr [w.heap.size] z2 (((z2.setCell ⟨w.heap.size, 0, none⟩ (.string (mkS d.pkg))).setCell ⟨w.heap.size, 1, none⟩ (.slice A Lc.length cap)).setCell ⟨w.heap.size, 2, none⟩ (.string (mkS d.rule))) := ((Fr.setCell _ _ _ _ (by simp)).trans (Fr.setCell _ _ _ _ (by simp))).trans (Fr.setCell _ _ _ _ (by simp))
      generalize (((z2.setCell ⟨w.heap.size, 0, none⟩ (.string (mkS d.pkg))).setCell ⟨w.heap.size, 1, none⟩ (.slice A Lc.length cap)).setCell ⟨w.heap.size, 2, none⟩ (.string (mkS d.rule))) = zf at hm3 hFm ⊢
      have hDne : zl.heap.size ≠ w.heap.size := by have := hzls.out; omega
      have hdf := (hFm.block _ (lt_of_heap Hd3.out) (by simp; exact hDne)).trans Hd3.out
      refine ⟨by simp, .inl ⟨_, _, rfl, run_takeDeferred hdf, ?_⟩⟩
      have hD : w.heap.size ≤ zl.heap.size := Nat.le_of_lt hzls.out
      refine ⟨_, res_cell3 rfl _ _ w.heap.size 27 #[.string (mkS d.pkg), .slice A Lc.length cap, .string (mkS d.rule)] (0, 0) rfl ((World.putObj_heap_other (Ne.symm hDne)).trans hm3) Tryz.underlying27 rfl (by kernel_rfl), ?_⟩
      rw [HrR.out]
      have hsc : sortC d.imports = Lc := by unfold sortC; rw [HL1.out, HLc.out]
      refine ⟨A, cap, ?_, ⟨?_, fun a ha => (Hb.out a ha).2.2.2.2⟩, bel_put (Hbel3.out.trans (hFm.below Hbel3.out.size (by simp))) hD _⟩
      · simp only [hsc]; rfl
      · simp only [hsc]
        refine ⟨HSl3.out.len, HSl3.out.nil, HSl3.out.le, HSl3.out.big, fun h => ?_⟩
        obtain ⟨b, o, rfl, hx⟩ := HSl3.out.cells h
        refine ⟨b, o, rfl, fun j hj => ?_⟩
        have hc := hx j hj
        obtain ⟨e1, e2, e3, e4, e5⟩ := Hb.out _ rfl
        simp only at e1 e2 e3 e4 e5
        have hlt : b < z2.heap.size := by
          have : j < (strs Lc).length := by rw [HSl3.out.len]; exact hj
          rw [List.getElem?_eq_getElem this] at hc
          exact World.block_lt_of_cell? _ _ hc
        exact (World.cell?_of_block ((World.putObj_heap_other e4).trans (hFm.block b hlt (by simp; exact e2)))).trans hc
theorem read_any (w : World) (s : List UInt8) (hg : Glob w) : Calls Tryz.prog 13 #[.string (mkS s)] w (RePost w (readR s)) := by
  by_cases h : s.length ≤ 65536
  · exact read_go w s hg h
  · refine (read_long w (mkS s) (by simp only [mkS, ByteArray.size, List.size_toArray]; omega)).mono ?_
    rintro e w' ⟨rfl, hB⟩
    have : readR s = (src0, 0, 13) := by unfold readR; rw [if_pos (by omega)]
    rw [this]
    exact ⟨none, 0, rfl, ⟨⟨rfl, by simp [src0], Nat.le_refl _, by simp, fun h => absurd h (by simp [src0])⟩, fun a ha => by cases ha⟩, hB⟩
end Go.Proofs.YtniphdhbgebedaaGreatDoor
