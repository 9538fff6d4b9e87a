/-
  Copy.
-/
import Derived.Test.YtaolddgnannojaaGreatDoorFsCrash
namespace Go.Proofs.YtaolddgnannojaaGreatDoor
open Go.RowKit Go.Maps

attribute [local go_sem] lt1 lt2 lt3 lt4 lt5 lt6

theorem atKey_has {D : Dm} {k : Lit} (h : has D k = true) (z z' : Dm) : D.atKey k z = D.atKey k z' := by
  cases D <;> try (simp [has] at h; done)
  rename_i es
  have hs : (es.find? (fun p => p.1.sameKey k)).isSome = true := List.find?_isSome.2 (List.any_eq_true.1 h)
  obtain ⟨x, hx⟩ := Option.isSome_iff_exists.1 hs
  simp [DataW.atKey, hx]
theorem fD_has (fs : List (Nat × FileC)) (fl : List (Nat × Value)) (hl : fs.length = fl.length) (n : Nat) : has (fD fs fl) (ik n) = (fs.map (·.1)).contains n := by
  unfold fD
  rw [has_eq, List.any_map, Bool.eq_iff_iff, List.any_eq_true, List.contains_iff_mem, List.mem_map]
  constructor
  · rintro ⟨p, hp, hk⟩
    refine ⟨p.1, (List.of_mem_zip hp).1, ?_⟩
    change (ik p.1.1).sameKey (ik n) = true at hk
    rw [ik_same] at hk
    simpa using hk
  · rintro ⟨e, he, rfl⟩
    obtain ⟨i, hi⟩ := List.getElem?_of_mem he
    have hi2 := (List.getElem?_eq_some_iff.1 hi).1
    refine ⟨(e, fl[i]'(by omega)), List.mem_of_getElem? (i := i) ?_, ?_⟩
    · rw [List.getElem?_zip_eq_some]
      exact ⟨hi, List.getElem?_eq_getElem _⟩
    · show (ik e.1).sameKey (ik e.1) = true
      rw [ik_same]
      simp
theorem fD_val {fs : List (Nat × FileC)} {fl : List (Nat × Value)} (hl : fs.length = fl.length) (hd : (fs.map (·.1)).Pairwise (· < ·)) {i : Nat} {e : Nat × FileC} {f : Nat × Value} (hi : fs[i]? = some e) (hf : fl[i]? = some f) (z : Dm) :
    (fD fs fl).atKey (ik e.1) z = nval f.1 := by
  have hh : has (fD fs fl) (ik e.1) = true := by
    rw [fD_has fs fl hl, List.contains_iff_mem]
    exact List.mem_map_of_mem (List.mem_of_getElem? hi)
  rw [atKey_has hh z .nil, fD_at fs fl hl]
  have hil := (List.getElem?_eq_some_iff.1 hi)
  obtain ⟨hi1, hi2⟩ := hil
  have hfi : fs.findIdx? (fun p => p.1 == e.1) = some i := by
    rw [List.findIdx?_eq_some_iff_getElem]
    refine ⟨hi1, by rw [hi2]; simp, fun j hj => ?_⟩
    have hp := List.pairwise_iff_getElem.1 hd j i (by simp; omega) (by simpa using hi1) hj
    simp [hi2] at hp
    simp
    omega
  rw [hfi]
  simp [List.getD_eq_getElem?_getD, hf]
theorem fD_any (fs : List (Nat × FileC)) (fl : List (Nat × Value)) (hl : fs.length = fl.length) (kl : Lit) : has (fD fs fl) kl = fs.any fun e => (ik e.1).sameKey kl := by
  unfold fD
  rw [has_eq, List.any_map]
  have h := zip_fst hl
  have e : fs.any (fun e => (ik e.1).sameKey kl) = ((fs.zip fl).map (·.1)).any (fun e => (ik e.1).sameKey kl) := by rw [h]
  rw [e, List.any_map]
  rfl
theorem fD_canon {fs : List (Nat × FileC)} {fl : List (Nat × Value)} (hl : fs.length = fl.length) (hp : (fs.map (·.1)).Pairwise (· < ·)) : Canon (fD fs fl) := by
  refine ⟨_, rfl, ?_, ?_⟩
  · rw [List.pairwise_map] at hp ⊢
    have hz : ((fs.zip fl).map (·.1)) = fs := zip_fst hl
    have hp2 : ((fs.zip fl).map (·.1)).Pairwise (fun a b => a.1 < b.1) := by rw [hz]; exact hp
    rw [List.pairwise_map] at hp2
    refine hp2.imp fun {a b} hab => ?_
    show (ik a.1.1).before (ik b.1.1) = true
    unfold ik Lit.before
    simp
    omega
  · intro p hp
    obtain ⟨q, _, rfl⟩ := List.mem_map.1 hp
    simp [ik, WideAt.IsKeyLit]
theorem flat_nodup {α : Type} (B : α → List Nat) : ∀ l : List α, (∀ x ∈ l, (B x).Nodup) → l.Pairwise (fun x y => ∀ k, k ∈ B x → k ∉ B y) → (l.flatMap B).Nodup
  | [], _, _ => by simp
  | x :: l, h1, h2 => by
    obtain ⟨a1, a2⟩ := List.pairwise_cons.1 h2
    rw [List.flatMap_cons, List.nodup_append]
    refine ⟨h1 x (by simp), flat_nodup B l (fun y hy => h1 y (by simp [hy])) a2, fun a ha b hb e => ?_⟩
    subst e
    obtain ⟨y, hy, hk⟩ := List.mem_flatMap.1 hb
    exact a1 y hy a ha hk
def upd (g : Nat → Nat × Value) (i : Nat) (f : Nat × Value) : Nat → Nat × Value := fun j => if j = i then f else g j
def CopyRel (w : World) (M : FsMem) (S : FsSt) (b0 b1 r : Nat) (wr : World) : Prop :=
  ∃ (left : Lit → Bool) (cnt : Nat) (gf : Nat → Nat × Value) (D : Dm), wr.ranges Tryz.prog 3 RPtr M.fm r S.files.length (fD S.files M.fl) left cnt ∧ Below w.heap.size w wr ∧
    wr.heap[b0]? = some (.cells #[.int .i64 (S.quota : Nat), .map (some b1), .int .i64 (S.last : Nat), .map (some M.nm), .map (some M.dm), .int .i64 S.size, M.pv, .int .i64 (S.steps : Nat), .int .i64 (S.armed : Nat), .bool S.down] 49 (0, 0)) ∧
    wr.ownsMap Tryz.prog 3 RPtr b1 (Maps.size D) D ∧ (∀ kl, has D kl = (has (fD S.files M.fl) kl && !left kl)) ∧ Maps.size D + cnt ≤ S.files.length ∧
    (∀ (i : Nat) (e : Nat × FileC), S.files[i]? = some e → left (ik e.1) = false → (∀ z, D.atKey (ik e.1) z = nval (gf i).1) ∧ FileAt wr e (gf i) ∧ (fblks (gf i)).Nodup ∧ ∀ k, k ∈ fblks (gf i) → r < k ∧ k < wr.heap.size) ∧
    (∀ (i j : Nat) (e e' : Nat × FileC), i ≠ j → S.files[i]? = some e → S.files[j]? = some e' → left (ik e.1) = false → left (ik e'.1) = false → ∀ k, k ∈ fblks (gf i) → k ∉ fblks (gf j))
set_option maxHeartbeats 8000000 in
set_option maxRecDepth 10000 in
theorem copy_any (w : World) (M : FsMem) (S : FsSt) (K : Nat) (h : FsAt w M S) (hg : FsGood K S) (hK : K ≤ 1048576) :
    Calls Tryz.prog 8 #[.pointer (some ⟨M.fb, 0, none⟩)] w (NewPost w S) := by
  obtain ⟨P, hP⟩ : ∃ P, P = NewPost w S := ⟨_, rfl⟩
  rw [← hP]
  have HP := Lib.hid hP
  have H := Lib.hid h
  have HG := Lib.hid hg
  have c0 : w.cell? ⟨M.fb, 0, none⟩ = some (.int .i64 (S.quota : Nat)) := (h.cell 0 _ rfl).1
  have c1 : w.cell? ⟨M.fb, 1, none⟩ = some (.map (some M.fm)) := (h.cell 1 _ rfl).1
  have c2 : w.cell? ⟨M.fb, 2, none⟩ = some (.int .i64 (S.last : Nat)) := (h.cell 2 _ rfl).1
  have c3 : w.cell? ⟨M.fb, 3, none⟩ = some (.map (some M.nm)) := (h.cell 3 _ rfl).1
  have c4 : w.cell? ⟨M.fb, 4, none⟩ = some (.map (some M.dm)) := (h.cell 4 _ rfl).1
  have c5 : w.cell? ⟨M.fb, 5, none⟩ = some (.int .i64 S.size) := (h.cell 5 _ rfl).1
  have c6 : w.cell? ⟨M.fb, 6, none⟩ = some M.pv := (h.cell 6 _ rfl).1
  have c7 : w.cell? ⟨M.fb, 7, none⟩ = some (.int .i64 (S.steps : Nat)) := (h.cell 7 _ rfl).1
  have c8 : w.cell? ⟨M.fb, 8, none⟩ = some (.int .i64 (S.armed : Nat)) := (h.cell 8 _ rfl).1
  have c9 : w.cell? ⟨M.fb, 9, none⟩ = some (.bool S.down) := (h.cell 9 _ rfl).1
  obtain ⟨Ap, cp, hpv⟩ : ∃ A c, M.pv = .slice A S.pend.length c := by
    obtain ⟨cs, _, p2⟩ := h.pend
    exact own_formT p2
  rw [hpv] at c6
  have HPV := Lib.hid hpv
  have hfb := h.lt M.fb (by simp [FsMem.own])
  have hmm := @run_makeMap Tryz.prog
  clear hP h hg hpv
  obtain ⟨W2, hW2⟩ : ∃ W, W = (w.alloc (.cells #[.int .i64 (S.quota : Nat), .map (some (w.heap.size + 1)), .int .i64 (S.last : Nat), .map (some M.nm), .map (some M.dm), .int .i64 S.size, .slice Ap S.pend.length cp, .int .i64 (S.steps : Nat), .int .i64 (S.armed : Nat), .bool S.down] 49)).alloc (.map #[] 0) := ⟨_, rfl⟩
  have hB2 : Below w.heap.size w W2 := by rw [hW2]; exact ((Below.refl _ _).alloc (Nat.le_refl _) _).alloc (by simp) _
  have hblk : W2.heap[w.heap.size]? = some (.cells #[.int .i64 (S.quota : Nat), .map (some (w.heap.size + 1)), .int .i64 (S.last : Nat), .map (some M.nm), .map (some M.dm), .int .i64 S.size, M.pv, .int .i64 (S.steps : Nat), .int .i64 (S.armed : Nat), .bool S.down] 49 (0, 0)) := by
    rw [hW2, HPV.out]
    exact (Below.heap_alloc _ _ _ (by simp)).trans (heap_alloc_new w _)
  have hmap : W2.ownsMap Tryz.prog 3 RPtr (w.heap.size + 1) 0 (.map []) := by
    rw [hW2]
    have := World.ownsMap_made (H := Unit) (w.alloc (.cells #[.int .i64 (S.quota : Nat), .map (some (w.heap.size + 1)), .int .i64 (S.last : Nat), .map (some M.nm), .map (some M.dm), .int .i64 S.size, .slice Ap S.pend.length cp, .int .i64 (S.steps : Nat), .int .i64 (S.armed : Nat), .bool S.down] 49)) Tryz.prog 3 RPtr
    simpa using this
  have hsz2 : W2.heap.size = w.heap.size + 2 := by rw [hW2]; simp
  have HF2 : Hid (W2.ownsMap Tryz.prog 3 RPtr M.fm S.files.length (fD S.files M.fl)) := Lib.hid (H.out.below hB2).files
  go_enter Tryz.func8, Tryz.ntmps8
  go_wp2_with (first
    | (at_range; (try rw [← hW2]); refine wpList_range_own _ rfl _ 45 rfl 3 55 intK Tryz.underlying45 RPtr M.fm S.files.length (fD S.files M.fl) rfl HF2.out ?_; intro w3 hrg3 hg3 hs3)
    | go_in)
  have hb3 : Below w.heap.size w w3 := hB2.grown hg3 hB2.size (by simp)
  have hst : ∀ (i : Nat) (e : Nat × FileC), S.files[i]? = some e → has (fD S.files M.fl) (ik e.1) = false → False := fun i e he hl => by
    rw [fD_has S.files M.fl H.out.each.length] at hl
    have : (S.files.map (·.1)).contains e.1 = true := by rw [List.contains_iff_mem]; exact List.mem_map_of_mem (List.mem_of_getElem? he)
    rw [this] at hl
    cases hl
  have Hrel0 : Hid (CopyRel w M S w.heap.size (w.heap.size + 1) W2.heap.size w3) := Lib.hid ⟨_, _, fun _ => (0, undef), .map [], hrg3, hb3, (hg3.block _ (lt_of_heap hblk) (by simp)).trans hblk, own_size (hmap.kept hg3 (by simp)), fun kl => by cases has (fD S.files M.fl) kl <;> rfl, by
    have := HF2.out.size_le
    show 0 + _ ≤ _
    omega, fun i e he hl => (hst i e he hl).elim, fun i j e e' _ he _ hl => (hst i e he hl).elim⟩
  clear hst
  clear hrg3 hg3 hs3 hb3 hmap hblk hB2 HF2 c0 c1 c2 c3 c4 c5 c6 c7 c8 c9 hmm hW2
  obtain ⟨b0, hb0⟩ : ∃ b0, b0 = w.heap.size := ⟨_, rfl⟩
  obtain ⟨b1, hb1⟩ : ∃ b1, b1 = b0 + 1 := ⟨_, rfl⟩
  obtain ⟨r, hr⟩ : ∃ r, r = W2.heap.size := ⟨_, rfl⟩
  rw [← hb0, ← hr] at Hrel0 ⊢
  rw [← hb1] at Hrel0 ⊢
  rw [← hb0] at hfb
  have Hnum : Hid (b0 = w.heap.size ∧ b1 = b0 + 1 ∧ r = b0 + 2) := Lib.hid ⟨hb0, hb1, by omega⟩
  clear hb0 hb1 hr hsz2
  simp only [Act.put, List.setIfInBounds_toArray, List.set_cons_zero, List.set_cons_succ]
  go_loopw [4] (fun _ wr => CopyRel w M S b0 b1 r wr) (fun _ wr => wr.rangeLeft M.fm r)
  case atStart => exact Hrel0.out
  case round =>
    clear Hrel0
    obtain ⟨left, cnt, gf, D, hrg, hbl, hb0, hm1, hhas, hsz, hB, hC⟩ := hrel
    have HL := Lib.hid hrg.left_eq
    have Hbl := Lib.hid hbl
    have Hb0 := Lib.hid hb0
    have Hm1 := Lib.hid hm1
    have Hhas := Lib.hid hhas
    have Hsz := Lib.hid hsz
    have HB := Lib.hid hB
    have HC := Lib.hid hC
    clear hbl hb0 hm1 hhas hsz hB hC
    go_wp2_with (first
      | (at_next; refine wpList_next_ranges _ rfl _ rfl 3 intK RPtr (Value.int .i64) Value.pointer intKInv ptrInv M.fm r S.files.length _ _ _ rfl hrg ?_ ?_)
      | go_in)
    · intro hc0 hl0
      obtain ⟨fl, hfl⟩ : ∃ fl, fl = (List.range S.files.length).map gf := ⟨_, rfl⟩
      have hfll : S.files.length = fl.length := by rw [hfl]; simp
      have hfli : ∀ i, i < S.files.length → fl[i]? = some (gf i) := fun i hi => by
        rw [hfl, List.getElem?_map, List.getElem?_range hi]
        rfl
      have hDe : D = fD S.files fl := by
        refine Maps.ext (Hm1.out.canon intK) (fD_canon hfll HG.out.inv.ord) (fun kl => ?_) fun kl z hh => ?_
        · rw [Hhas.out kl, hl0, fD_any S.files fl hfll, fD_any S.files M.fl H.out.each.length]
          simp
        · rw [Hhas.out kl, fD_any S.files M.fl H.out.each.length] at hh
          simp only [hl0, Bool.not_false, Bool.and_true] at hh
          obtain ⟨e, he, hk⟩ := List.any_eq_true.1 hh
          obtain ⟨i, hi⟩ := List.getElem?_of_mem he
          have hi2 := (List.getElem?_eq_some_iff.1 hi).1
          have := WideAt.sameKey_eq hk
          rw [← this, (HB.out i e hi (hl0 _)).1 z, fD_val hfll HG.out.inv.ord hi (hfli i hi2) z]
      have hb := H.out.below Hbl.out
      have c3 : wr.drew.cell? ⟨M.fb, 3, none⟩ = some (.map (some M.nm)) := (hb.cell 3 _ rfl).1
      have c4 : wr.drew.cell? ⟨M.fb, 4, none⟩ = some (.map (some M.dm)) := (hb.cell 4 _ rfl).1
      have g3 : wr.drew.cell? ⟨b0, 3, none⟩ = some (.map (some M.nm)) := (blk_cells Hb0.out).1 3
      have z3 : wr.drew.frozen? ⟨b0, 3, none⟩ = false := (blk_cells Hb0.out).2.1 3
      have Hb := Lib.hid hb
      have HDe := Lib.hid hDe
      have Hfl := Lib.hid hfl
      have Hfll := Lib.hid hfll
      have Hfli := Lib.hid hfli
      have Hl0 := Lib.hid hl0
      clear hrg hb hDe hfl hfll hfli hl0
      go_wp2_with fail
      with_reducible refine g_mixx [(0, 0), (1, 0), (2, 0), (3, 0), (5, 0), (6, 0), (7, 0), (8, 0), (4, 2), (9, 2), (10, 0), (11, 3), (12, 1), (13, 3)] (fun w' => w'.cell? ⟨M.fb, 3, none⟩ = some (.map (some M.nm)) ∧ w'.cell? ⟨M.fb, 4, none⟩ = some (.map (some M.dm))) 0 _ rfl (by kernel_rfl) (by kernel_rfl) ?_ ?_
      · exact ⟨c3, c4⟩
      intro OPS HDD
      simp only [mixX, nthO, consX]
      iterate 8 ((with_reducible refine x_val (v := ?_) ?_ ?_ ?_); rotate_left; (rintro _ ⟨h1, h2⟩; go_simp; first | done | rfl | (constructor <;> rfl)); exact ⟨c3, c4⟩)
      with_reducible refine x_one ?_
      have hcl1 := AnyW.maps_Clone_owns Tryz.clone19 9 (plainElem Tryz.prog 3) M.nm (Maps.size S.names) S.names wr.drew Hb.out.names
      change Calls Tryz.prog 19 _ _ _ at hcl1
      refine l_call ?_ (hcl1.mono ?_)
      · go_simp
      rintro e w4 ⟨rfl, hn4, _, hb4⟩
      have hb4' : Below wr.heap.size wr w4 := ⟨hb4.os, hb4.tape, hb4.output, hb4.size, hb4.block⟩
      have hn4' : OwnN w4 wr.heap.size S.names := hn4
      have hc4 := Cells.of_below hb4'
      refine ⟨_, rfl, ?_⟩
      refine x_keep ⟨hc4 _ _ c3, hc4 _ _ c4⟩ ?_
      with_reducible refine x_one ?_
      have hb4m := Hb.out.below hb4'
      have hcl2 := AnyW.maps_Clone_owns Tryz.clone19 9 (plainElem Tryz.prog 3) M.dm (Maps.size S.dur) S.dur w4 hb4m.dur
      change Calls Tryz.prog 19 _ _ _ at hcl2
      refine l_call ?_ (hcl2.mono ?_)
      · go_simp
      rintro e w5 ⟨rfl, hd5, _, hb5⟩
      have hc5 := Cells.of_below hb5
      have hb5' := hb4'.trans (hb5.mono hb4'.size)
      have hn5 := map_kept hn4' (Fr.of_below hb5 []) (by simp)
      refine ⟨_, rfl, ?_⟩
      refine x_keep ⟨hc5 _ _ (hc4 _ _ c3), hc5 _ _ (hc4 _ _ c4)⟩ ?_
      have hblk5 := (hb5'.block _ (lt_of_heap Hb0.out)).trans Hb0.out
      have g3 : w5.cell? ⟨b0, 3, none⟩ = some (.map (some M.nm)) := (blk_cells hblk5).1 3
      have z3 : w5.frozen? ⟨b0, 3, none⟩ = false := (blk_cells hblk5).2.1 3
      have g4 : w5.cell? ⟨b0, 4, none⟩ = some (.map (some M.dm)) := (blk_cells hblk5).1 4
      have z4 : w5.frozen? ⟨b0, 4, none⟩ = false := (blk_cells hblk5).2.1 4
      have hn1 : w5.heap.size ≠ 0 := by have := lt_of_heap hblk5; omega
      have hd5' := hd5
      obtain ⟨n2, hn2⟩ : ∃ n2, n2 = w4.heap.size := ⟨_, rfl⟩
      obtain ⟨n1, hn1⟩ : ∃ n1, n1 = wr.heap.size := ⟨_, rfl⟩
      have hlt12 : n1 < n2 := by rw [hn1, hn2]; exact hn4'.lt
      have hlt25 : n2 < w5.heap.size := by rw [hn2]; exact hd5.lt
      have hsz5 := hb5'.size
      change wpX _ _ _ _ _ (Act.put (Act.put _ _ (Value.map (some wr.heap.size))) _ (Value.map (some w4.heap.size))) _
      rw [← hn1, ← hn2]
      rw [← hn1] at hn5
      rw [← hn2] at hd5'
      iterate 1 ((with_reducible refine x_val (v := ?_) ?_ ?_ ?_); rotate_left; (rintro _ ⟨h1, h2⟩; go_simp; first | done | rfl | (constructor <;> rfl)); exact ⟨hc5 _ _ (hc4 _ _ c3), hc5 _ _ (hc4 _ _ c4)⟩)
      with_reducible refine x_three ?_
      with_reducible refine l_skip (w' := w5.setCell ⟨b0, 3, none⟩ (.map (some n1))) ?_ ?_
      · go_simp
      refine x_last ?_
      iterate 1 ((with_reducible refine x_any (v := ?_) ?_ ?_); rotate_left; (rintro _; go_simp; first | done | rfl | (constructor <;> rfl)))
      with_reducible refine x_three ?_
      with_reducible refine l_skip (w' := (w5.setCell ⟨b0, 3, none⟩ (.map (some n1))).setCell ⟨b0, 4, none⟩ (.map (some n2))) ?_ ?_
      · go_simp
      refine x_last ?_
      with_reducible refine x_end ?_
      simp only [Act.put, List.setIfInBounds_toArray, List.set_cons_zero, List.set_cons_succ]
      have hfr6 : Fr [b0] wr ((w5.setCell ⟨b0, 3, none⟩ (.map (some n1))).setCell ⟨b0, 4, none⟩ (.map (some n2))) := ((Fr.of_below hb5' _).trans (Fr.setCell _ _ _ _ (by simp))).trans (Fr.setCell _ _ _ _ (by simp))
      have hfr56 : Fr [b0] w5 ((w5.setCell ⟨b0, 3, none⟩ (.map (some n1))).setCell ⟨b0, 4, none⟩ (.map (some n2))) := (Fr.setCell _ _ _ _ (by simp)).trans (Fr.setCell _ _ _ _ (by simp))
      have hblk6 := heap_setCell_at (heap_setCell_at hblk5 3 (.map (some n1))) 4 (.map (some n2))
      have hn5b : n1 ∉ [b0] := fun hh => by have := Hbl.out.size; have := Hnum.out.1; have := lt_of_heap Hb0.out; rw [List.mem_singleton] at hh; omega
      have hd5b : n2 ∉ [b0] := fun hh => by have := Hbl.out.size; have := Hnum.out.1; have := lt_of_heap Hb0.out; rw [List.mem_singleton] at hh; omega
      have hn6 := map_kept hn5 hfr56 hn5b
      have hd6 := map_kept hd5' hfr56 hd5b
      have hsz6 := hfr56.size
      have hbl6 : Below w.heap.size w ((w5.setCell ⟨b0, 3, none⟩ (.map (some n1))).setCell ⟨b0, 4, none⟩ (.map (some n2))) := Hbl.out.trans (hfr6.below Hbl.out.size fun k hk => by rw [List.mem_singleton.1 hk]; have := Hnum.out.1; omega)
      generalize (w5.setCell ⟨b0, 3, none⟩ (.map (some n1))).setCell ⟨b0, 4, none⟩ (.map (some n2)) = w6 at *
      have h6 := H.out.below hbl6
      obtain ⟨csr, p1, p2⟩ := h6.pend
      have hsl : Sl w6 Ap cp S.pend.length 3 csr.flatten := by
        obtain ⟨A2, c2, e2, h2, _⟩ := row_slk p2
        rw [HPV.out] at e2
        simp only [Value.slice.injEq, true_and] at e2
        obtain ⟨rfl, rfl⟩ := e2
        exact h2
      have hone : ∀ u ∈ csr.flatten, u.oneCell' = true := fun u hu => by
        obtain ⟨c, hc, huc⟩ := List.mem_flatten.1 hu
        refine (p1.left_all (R := fun c => ∀ u ∈ c, u.oneCell' = true) (fun a b hab => ?_)) c hc u huc
        obtain ⟨v, rfl, hv⟩ := hab
        refine one_change ?_
        cases hb : b.chg with
        | put n k => rw [hb] at hv; obtain ⟨_, _, _, _, rfl, _⟩ := hv; rfl
        | move n n' k => rw [hb] at hv; obtain ⟨_, _, _, _, _, _, rfl, _⟩ := hv; rfl
        | del n => rw [hb] at hv; obtain ⟨_, _, rfl, _⟩ := hv; rfl
      have hpl := HG.out.inv.pends
      have hcl := clone_any w6 _ _ _ _ hsl hone (by omega)
      have c6 : w6.cell? ⟨M.fb, 6, none⟩ = some (.slice Ap S.pend.length cp) := by rw [← HPV.out]; exact (h6.cell 6 _ rfl).1
      have Hcl := Lib.hid hcl
      have H6 := Lib.hid h6
      have P1 := Lib.hid p1
      have Hfr6 := Lib.hid hfr6
      have Hblk6 := Lib.hid hblk6
      have Hn6 := Lib.hid hn6
      have Hd6 := Lib.hid hd6
      have Hbl6 := Lib.hid hbl6
      have Hord := Lib.hid (And.intro (And.intro (show wr.heap.size = n1 from hn1.symm) hlt12) (show n2 < w6.heap.size by omega))
      clear hcl h6 p1 p2 hsl hone hfr6 hfr56 hblk6 hn6 hd6 hbl6 hn5b hd5b hsz6 hn5 hd5 hd5' hblk5 g3 z3 g4 z4 hc5 hc4 hb5 hb5' hb4 hb4' hb4m hcl1 hcl2 hn4 hn4' hn1 hn2 hlt12 hlt25 hsz5 c3 c4 hpl
      go_wp2_with fail
      refine Hcl.out.mono ?_
      rintro e w7 ⟨v2, rfl, ho7, hb7⟩
      obtain ⟨Av, cv, hv2⟩ := own_formT ho7
      have hblk7 := (hb7.block _ (lt_of_heap Hblk6.out)).trans Hblk6.out
      have g6 : w7.cell? ⟨b0, 6, none⟩ = some (.slice Ap S.pend.length cp) := by rw [(blk_cells hblk7).1 6, ← HPV.out]; rfl
      have z6 : w7.frozen? ⟨b0, 6, none⟩ = false := (blk_cells hblk7).2.1 6
      have hblk8 := heap_setCell_at hblk7 6 v2
      have hfr8 : Fr [b0] w7 (w7.setCell ⟨b0, 6, none⟩ v2) := Fr.setCell _ _ _ _ (by simp)
      have hfr78 : Fr [b0] wr (w7.setCell ⟨b0, 6, none⟩ v2) := (Hfr6.out.trans (Fr.of_below hb7 _)).trans hfr8
      have hfr68 : Fr [b0] w6 (w7.setCell ⟨b0, 6, none⟩ v2) := (Fr.of_below hb7 _).trans hfr8
      have hb68 : Below w.heap.size w (w7.setCell ⟨b0, 6, none⟩ v2) := Hbl6.out.trans (hfr68.below Hbl6.out.size fun k hk => by rw [List.mem_singleton.1 hk]; have := Hnum.out.1; omega)
      obtain ⟨hn0, hn1, hn2⟩ := Hnum.out
      obtain ⟨⟨ho1, ho2⟩, ho3⟩ := Hord.out
      have hb0l := lt_of_heap Hb0.out
      have hsl6 := Hfr6.out.size
      have hb1lt := Hm1.out.lt
      have hvb : ∀ b, v2.ownBlock = some b → w6.heap.size ≤ b := fun b hb => (own_blk ho7 b hb).1
      have hall : ∀ f ∈ fl, (fblks f).Nodup ∧ ∀ k, k ∈ fblks f → r < k ∧ k < wr.heap.size := fun f hf => by
        obtain ⟨i, hi⟩ := List.getElem?_of_mem hf
        have hil := (List.getElem?_eq_some_iff.1 hi).1
        have hil2 : i < S.files.length := by rw [Hfll.out]; exact hil
        rw [Hfli.out i hil2] at hi
        cases hi
        have := HB.out i _ (List.getElem?_eq_getElem hil2) (Hl0.out _)
        exact ⟨this.2.2.1, this.2.2.2⟩
      have hpw : fl.Pairwise (fun x y => ∀ k, k ∈ fblks x → k ∉ fblks y) := by
        rw [List.pairwise_iff_getElem]
        intro i j hi hj hij
        have hi2 : i < S.files.length := by rw [Hfll.out]; exact hi
        have hj2 : j < S.files.length := by rw [Hfll.out]; exact hj
        have e1 := Hfli.out i hi2
        have e2 := Hfli.out j hj2
        rw [List.getElem?_eq_getElem hi] at e1
        rw [List.getElem?_eq_getElem hj] at e2
        rw [Option.some.inj e1, Option.some.inj e2]
        exact HC.out i j _ _ (by omega) (List.getElem?_eq_getElem hi2) (List.getElem?_eq_getElem hj2) (Hl0.out _) (Hl0.out _)
      have hown : (⟨b0, b1, n1, n2, v2, fl⟩ : FsMem).own = [b0, b1] ++ (fl.flatMap fblks ++ ([n1, n2] ++ v2.ownBlock.toList)) → True := fun _ => trivial
      have hmem : ∀ k, k ∈ (⟨b0, b1, n1, n2, v2, fl⟩ : FsMem).own → k = b0 ∨ k = b1 ∨ k = n1 ∨ k = n2 ∨ w6.heap.size ≤ k ∨ (k ∈ fl.flatMap fblks ∧ r < k ∧ k < wr.heap.size) := fun k hk => by
        simp only [FsMem.own, List.mem_cons, List.mem_append] at hk
        rcases hk with h9 | h9 | h9 | h9 | h9 | h9
        · exact .inl h9
        · exact .inr (.inl h9)
        · exact .inr (.inr (.inl h9))
        · exact .inr (.inr (.inr (.inl h9)))
        · exact .inr (.inr (.inr (.inr (.inl (hvb k (by simpa using h9))))))
        · refine .inr (.inr (.inr (.inr (.inr ⟨h9, ?_⟩))))
          obtain ⟨f, hf, hkf⟩ := List.mem_flatMap.1 h9
          exact (hall f hf).2 k hkf
      have hfm8 : Frm [b0] wr (w7.setCell ⟨b0, 6, none⟩ v2) := ⟨hfr78, fun k hk _ => by rw [List.mem_singleton.1 hk]; exact .inr ⟨_, _, Hb0.out, .inl rfl⟩⟩
      have Hfin : Hid (P (.returned (.pointer (some ⟨b0, 0, none⟩))) (w7.setCell ⟨b0, 6, none⟩ v2)) := Lib.hid (by
        rw [HP.out]
        refine ⟨⟨b0, b1, n1, n2, v2, fl⟩, rfl, ⟨hblk8, map_kept Hn6.out hfr68 (by simp; omega), map_kept Hd6.out hfr68 (by simp; omega), H.out.natN, H.out.natD, ?_, ?_, ⟨csr, ?_, ?_⟩, ?_⟩, hb68, fun k hk => ?_⟩
        · rw [← HDe.out]
          exact (map_kept Hm1.out hfr78 (by simp; omega)).mono (by have := Hsz.out; omega)
        · refine All2.of_at Hfll.out fun i e f he hf => ?_
          have hil := (List.getElem?_eq_some_iff.1 he).1
          rw [Hfli.out i hil] at hf
          cases hf
          obtain ⟨_, q2, _, q4⟩ := HB.out i e he (Hl0.out _)
          have hap : ∀ k, k ∈ fblks (gf i) → k ∉ [b0] := fun k hk => by
            have := q4 k hk
            simp
            omega
          exact q2.kept hfr78 (hap _ (by simp [fblks])) fun b hb => hap b (by simp [fblks, hb])
        · refine P1.out.mono fun a p hp => hp.kept (S := [b0]) ⟨hfr68, fun k hk _ => by rw [List.mem_singleton.1 hk]; exact .inr ⟨_, _, Hblk6.out, .inl rfl⟩⟩
        · exact row_kept (own_base ho7 (Nat.zero_le _)) hfr8 fun b hb hh => by
            have := hvb b hb
            rw [List.mem_singleton] at hh
            omega
        · have hflat := flat_nodup fblks fl (fun f hf => (hall f hf).1) hpw
          have hin : ∀ k, k ∈ v2.ownBlock.toList ++ fl.flatMap fblks → w6.heap.size ≤ k ∨ (r < k ∧ k < wr.heap.size) := fun k hk => by
            rcases List.mem_append.1 hk with h9 | h9
            · exact .inl (hvb k (by simpa using h9))
            · obtain ⟨f, hf, hkf⟩ := List.mem_flatMap.1 h9
              exact .inr ((hall f hf).2 k hkf)
          show (b0 :: b1 :: n1 :: n2 :: (v2.ownBlock.toList ++ fl.flatMap fblks)).Nodup
          rw [List.nodup_cons, List.nodup_cons, List.nodup_cons, List.nodup_cons, List.nodup_append]
          refine ⟨fun hh => ?_, fun hh => ?_, fun hh => ?_, fun hh => ?_, blk_toList, hflat, fun a ha b hb e => ?_⟩
          · rcases List.mem_cons.1 hh with h9 | hh
            · omega
            rcases List.mem_cons.1 hh with h9 | hh
            · omega
            rcases List.mem_cons.1 hh with h9 | hh
            · omega
            have := hin _ hh
            omega
          · rcases List.mem_cons.1 hh with h9 | hh
            · omega
            rcases List.mem_cons.1 hh with h9 | hh
            · omega
            have := hin _ hh
            omega
          · rcases List.mem_cons.1 hh with h9 | hh
            · omega
            have := hin _ hh
            omega
          · have := hin _ hh
            omega
          · subst e
            have h1 := hvb a (by simpa using ha)
            obtain ⟨f, hf, hkf⟩ := List.mem_flatMap.1 hb
            have h2 := (hall f hf).2 a hkf
            omega
        · rcases hmem k hk with h9 | h9 | h9 | h9 | h9 | h9 <;> omega)
      rw [hv2] at Hfin ⊢
      clear ho7 hb7 hv2 hblk7 hblk8 hfr8 hfr78 hfr68 hb68 hvb hall hpw hown hmem hfm8 hn0 hn1 hn2 ho1 ho2 ho3 hb0l hsl6 hb1lt
      go_wp2_with fail
      exact Hfin.out
    · intro x c kl y yp w7 cnt7 hkey hlk hv hat7 hrg7 hlt hg7 hs7 hen
      obtain ⟨hn0, hn1, hn2⟩ := Hnum.out
      obtain ⟨i, e, f, he, hf, rfl, hy⟩ := fD_key H.out.each.length hat7
      subst hy
      have hc := RPtr_nval hv
      simp only [Value.pointer.injEq] at hc
      subst hc
      have hx : x = (e.1 : Int) := by
        obtain ⟨x', ex, ek, _⟩ := Maps.keyOf_int_inv Tryz.underlying3 hkey
        simp only [Value.int.injEq, true_and] at ex
        subst ex
        unfold ik at ek
        simp only [Lit.int.injEq, true_and] at ek
        exact ek.symm
      subst hx
      have hb7 : Below w.heap.size w w7 := Hbl.out.grown hg7 Hbl.out.size (by intro j hj; cases hj; omega)
      have h7 := H.out.below hb7
      have hfile := All2.at2 h7.each he hf
      have hsy := HG.out.inv.sy e (List.mem_of_getElem? he)
      have hno := HG.out.inv.rng e (List.mem_of_getElem? he)
      have hlast := HG.out.inv.last
      obtain ⟨gx, v⟩ := f
      obtain ⟨no, d, sy⟩ := e
      obtain ⟨Av, cv, hv'⟩ := data_form hfile.2
      simp only at hv' hsy hno
      subst hv'
      have hg0 : w7.heap[gx]? = some (.cells #[.slice Av d.length cv, .int .i64 (sy : Nat)] 58 (0, 0)) := hfile.1
      obtain ⟨A2, c2, hbv, hbs⟩ := data_bs hfile.2
      simp only [Value.slice.injEq, true_and] at hbv
      obtain ⟨rfl, rfl⟩ := hbv
      have hb0' := ((Fr.of_grown hg7).block _ (lt_of_heap Hb0.out) (by simp; omega)).trans Hb0.out
      have d1 : w7.drew.cell? ⟨b0, 1, none⟩ = some (.map (some b1)) := (blk_cells hb0').1 1
      have m0 : w7.drew.cell? ⟨gx, 0, none⟩ = some (.slice Av d.length cv) := (blk_cells hg0).1 0
      have m1 : w7.drew.cell? ⟨gx, 1, none⟩ = some (.int .i64 (sy : Nat)) := (blk_cells hg0).1 1
      have hm7 := Hm1.out.kept hg7 (by simp; omega)
      have Hm7 := Lib.hid hm7
      have Hb7 := Lib.hid hb7
      have Hb07 := Lib.hid hb0'
      have Hrg7 := Lib.hid hrg7
      have Hbs := Lib.hid hbs
      have Hfr7 := Lib.hid (Fr.of_grown hg7)
      have Hat7 := Lib.hid hat7
      clear hm7 hb7 hb0' hrg7 hrg hbs h7 hfile hg0 hg7 hs7 Hm1 Hbl Hb0 hat7 hkey hv hn0 hn1 hn2
      go_wp2_with fail
      with_reducible refine g_mixx [(0, 0), (1, 0), (2, 0), (3, 0), (4, 0), (5, 0), (6, 0), (8, 0), (9, 0), (10, 0), (11, 0), (7, 2), (12, 0), (13, 2), (14, 3)] (fun w' => w'.cell? ⟨b0, 1, none⟩ = some (.map (some b1)) ∧ w'.cell? ⟨gx, 0, none⟩ = some (.slice Av d.length cv) ∧ w'.cell? ⟨gx, 1, none⟩ = some (.int .i64 (sy : Nat))) 0 _ rfl (by kernel_rfl) (by kernel_rfl) ?_ ?_
      · exact ⟨d1, m0, m1⟩
      intro OPS HDD
      simp only [mixX, nthO, consX]
      iterate 11 ((with_reducible refine x_val (v := ?_) ?_ ?_ ?_); rotate_left; (rintro _ ⟨h1, h2, h3⟩; go_simp; first | done | rfl | (constructor <;> rfl)); exact ⟨d1, m0, m1⟩)
      with_reducible refine x_one ?_
      refine l_call ?_ ((fresh_any d Av cv w7.drew (by omega) (Hbs.out.keep fun _ _ h => h)).mono ?_)
      · go_simp
      rintro e w2 ⟨gd, rfl, hgd, hgs, hb2⟩
      have hb2' : Below w7.heap.size w7 w2 := ⟨hb2.os, hb2.tape, hb2.output, hb2.size, hb2.block⟩
      have hgs' : w7.heap.size ≤ gd := hgs
      have hc2 := Cells.of_below hb2'
      refine ⟨_, rfl, ?_⟩
      refine x_keep ⟨hc2 _ _ d1, hc2 _ _ m0, hc2 _ _ m1⟩ ?_
      iterate 1 ((with_reducible refine x_val (v := ?_) ?_ ?_ ?_); rotate_left; (rintro _ ⟨h1, h2, h3⟩; go_simp; first | done | rfl | (constructor <;> rfl)); exact ⟨hc2 _ _ d1, hc2 _ _ m0, hc2 _ _ m1⟩)
      with_reducible refine x_one ?_
      iterate 1 (with_reducible refine l_val (v := ?_) (w' := ?_) ?_ ?_; rotate_left 2; (go_simp; first | done | rfl | (constructor <;> rfl)))
      refine x_keep ⟨Cells.alloc _ _ _ _ (hc2 _ _ d1), Cells.alloc _ _ _ _ (hc2 _ _ m0), Cells.alloc _ _ _ _ (hc2 _ _ m1)⟩ ?_
      with_reducible refine x_three ?_
      have hbw : Below w7.heap.size w7 (w2.alloc (.cells #[.slice (some ⟨gd, 0, none⟩) d.length d.length, .int .i64 (sy : Nat)] 58)) := hb2'.alloc hb2'.size _
      have hgd2 : gd < w2.heap.size := lt_of_heap hgd
      have hmany := HG.out.inv.many
      refine wpList_mapUpdate_own _ rfl (.tmp 22) (.tmp 23) (.tmp 34) 45 rfl 3 55 intK Tryz.underlying45 RPtr b1 (Maps.size D) D ?_ (map_kept Hm7.out (Fr.of_below hbw []) (by simp)) (by have := Hsz.out; unfold maxLen; omega) (.int .i64 (no : Nat)) (.pointer (some ⟨w2.heap.size, 0, none⟩)) (ik no) ?_ ?_ (keyOf_int_mk (a := ((no : Nat) : Int)) Tryz.underlying3 (WalkArith.wf_i64 (n := ((no : Nat) : Int)) (by omega))) (nval w2.heap.size) [] (RPtr_some _) ?_
      · simp [Act.eval, Act.put]
      · simp [Act.eval, Act.put]
      · simp [Act.eval, Act.put]
      intro w8 hown8 hg8
      obtain ⟨hn0, hn1, hn2⟩ := Hnum.out
      have hrlt := Hrg7.out.lt
      have hfr8 : Fr [b1] w7 w8 := (Fr.of_below hbw _).trans (Fr.of_grown hg8)
      have hgr8 : w7.grownBy w8 (some b1) := ⟨hfr8.os, hfr8.tape, hfr8.output, hfr8.size, fun k hk hne => hfr8.block k hk fun hh => hne (by rw [List.mem_singleton.1 hh])⟩
      have hblk : ∀ {k : Nat} {o : Obj}, (w2.alloc (.cells #[.slice (some ⟨gd, 0, none⟩) d.length d.length, .int .i64 (sy : Nat)] 58)).heap[k]? = some o → w7.heap.size ≤ k → w8.heap[k]? = some o := fun {k o} hk hs => (hg8.block k (lt_of_heap hk) fun e => by cases e; omega).trans hk
      have hf1 := hblk (heap_alloc_new w2 (.cells #[.slice (some ⟨gd, 0, none⟩) d.length d.length, .int .i64 (sy : Nat)] 58)) hb2'.size
      have hf2 := hblk ((((Below.refl w2.heap.size w2).alloc (Nat.le_refl _) _).block gd hgd2).trans hgd) hgs'
      have hsz8 := hg8.size
      have hsz27 := hb2'.size
      rw [show (w2.alloc (.cells #[.slice (some ⟨gd, 0, none⟩) d.length d.length, .int .i64 (sy : Nat)] 58)).heap.size = w2.heap.size + 1 by simp] at hsz8
      have hhas7 : has (fD S.files M.fl) (ik no) = true := has_true_of_atKey Hat7.out
      have hfr78 : Fr [r, b1] wr w8 := (Hfr7.out.more fun k hk => by simp at hk; simp [hk]).trans (hfr8.more fun k hk => by simp at hk; simp [hk])
      have hnum : ∀ (j : Nat) (e' : Nat × FileC), S.files[j]? = some e' → j ≠ i → (ik e'.1).sameKey (ik no) = false := fun j e' hj hne => by
        rw [ik_same]
        have hp := List.pairwise_iff_getElem.1 HG.out.inv.ord
        obtain ⟨hj1, hj2⟩ := List.getElem?_eq_some_iff.1 hj
        obtain ⟨hi1, hi2⟩ := List.getElem?_eq_some_iff.1 he
        have e1 : (S.files.map (·.1))[i]'(by simpa using hi1) = no := by simp [hi2]
        have e2 : (S.files.map (·.1))[j]'(by simpa using hj1) = e'.1 := by simp [hj2]
        rcases Nat.lt_or_gt_of_ne hne with hlt | hlt
        · have := hp j i (by simpa using hj1) (by simpa using hi1) hlt
          simp
          omega
        · have := hp i j (by simpa using hi1) (by simpa using hj1) hlt
          simp
          omega
      have hself : (ik no).sameKey (ik no) = true := by rw [ik_same]; simp
      have hik : WideAt.IsKeyLit (ik no) := by simp [ik, WideAt.IsKeyLit]
      have hnk : ∀ kl, kl ≠ ik no → kl.sameKey (ik no) = false := fun kl h => sameKey_ne h
      have hrg8 := Hrg7.out.kept hgr8 (fun e => by
          have := H.out.lt M.fm (by simp [FsMem.own])
          simp at e
          omega) (fun e => by simp at e; omega)
      have Hms : Hid (w8.rangeLeft M.fm r < wr.rangeLeft M.fm r) := Lib.hid (by rw [hrg8.left_eq, HL.out]; exact hlt)
      have Hfin : Hid (CopyRel w M S b0 b1 r w8) := by
        refine Lib.hid ⟨_, cnt7, upd gf i (w2.heap.size, .slice (some ⟨gd, 0, none⟩) d.length d.length), D.put (ik no) (nval w2.heap.size), hrg8, Hb7.out.grown hgr8 Hb7.out.size (by intro j hj; cases hj; omega), (hfr8.block _ (lt_of_heap Hb07.out) (by simp; omega)).trans Hb07.out, own_size hown8, fun kl => ?_, ?_, fun j e' hj hl => ?_, fun j j' e' e'' hne hj hj' hl hl' => ?_⟩
        · show has (D.put (ik no) (nval w2.heap.size)) kl = (has (fD S.files M.fl) kl && !(left kl && !kl.sameKey (ik no)))
          by_cases e : kl = ik no
          · subst e
            rw [has_put_same Hm7.out.isMap hik, hhas7, hself]
            simp
          · rw [has_put_other e, Hhas.out kl, sameKey_ne e]
            simp
        · have h1 := size_put (k := ik no) (Hm7.out.tidy intK) (nval w2.heap.size)
          have h2 := Hsz.out
          rw [h1]
          split <;> omega
        · have hsz7 := Hfr7.out.size
          by_cases hji : j = i
          · subst hji
            obtain rfl : e' = (no, ⟨d, sy⟩) := by rw [he] at hj; exact (Option.some.inj hj).symm
            have hu : upd gf j (w2.heap.size, .slice (some ⟨gd, 0, none⟩) d.length d.length) j = (w2.heap.size, .slice (some ⟨gd, 0, none⟩) d.length d.length) := by simp [upd]
            rw [hu]
            refine ⟨fun z => atKey_put_same Hm7.out.isMap hik _ _, ⟨hf1, .inr ⟨gd, d.length, _, rfl, hf2, Nat.le_refl _, by unfold maxLen; omega, by simp [u8s], by rw [List.toList_toArray]; exact List.take_of_length_le (by simp [u8s])⟩⟩, ?_, ?_⟩
            · simp [fblks, Value.ownBlock]
              omega
            · intro k hk
              simp [fblks, Value.ownBlock] at hk
              omega
          · have hl2 : left (ik e'.1) = false := by
              have h9 := hnum j e' hj hji
              simp only [h9, Bool.not_false, Bool.and_true] at hl
              exact hl
            obtain ⟨q1, q2, q3, q4⟩ := HB.out j e' hj hl2
            have hu : upd gf i (w2.heap.size, .slice (some ⟨gd, 0, none⟩) d.length d.length) j = gf j := by simp [upd, hji]
            rw [hu]
            have hap : ∀ k, k ∈ fblks (gf j) → k ∉ [r, b1] := fun k hk => by
              have := q4 k hk
              simp
              omega
            refine ⟨fun z => ?_, q2.kept hfr78 (hap _ (by simp [fblks])) (fun b hb => hap b (by simp [fblks, hb])), q3, fun k hk => ?_⟩
            · rw [atKey_put_other, q1 z]
              intro e9
              have h9 := hnum j e' hj hji
              rw [e9, hself] at h9
              cases h9
            · have := q4 k hk
              omega
        · have hsz7 := Hfr7.out.size
          have key : ∀ (j : Nat) (e' : Nat × FileC), S.files[j]? = some e' → (left (ik e'.1) && !(ik e'.1).sameKey (ik no)) = false → j ≠ i → (∀ k, k ∈ fblks (gf j) → k < wr.heap.size) ∧ left (ik e'.1) = false := fun j e' hj hl hji => by
            have h9 := hnum j e' hj hji
            have hl2 : left (ik e'.1) = false := by
              simp only [h9, Bool.not_false, Bool.and_true] at hl
              exact hl
            obtain ⟨q1, q2, q3, q4⟩ := HB.out j e' hj hl2
            exact ⟨fun k hk => (q4 k hk).2, hl2⟩
          have hnew : ∀ k, k ∈ fblks (w2.heap.size, Value.slice (some ⟨gd, 0, none⟩) d.length d.length) → wr.heap.size ≤ k := fun k hk => by
            simp [fblks, Value.ownBlock] at hk
            omega
          have hui : upd gf i (w2.heap.size, .slice (some ⟨gd, 0, none⟩) d.length d.length) i = (w2.heap.size, .slice (some ⟨gd, 0, none⟩) d.length d.length) := by simp [upd]
          have huo : ∀ j, j ≠ i → upd gf i (w2.heap.size, .slice (some ⟨gd, 0, none⟩) d.length d.length) j = gf j := fun j hji => by simp [upd, hji]
          by_cases hji : j = i
          · subst hji
            rw [hui, huo j' (fun e => hne e.symm)]
            intro k hk hk2
            have := hnew k hk
            have := (key j' e'' hj' hl' (fun e => hne e.symm)).1 k hk2
            omega
          · by_cases hji' : j' = i
            · subst hji'
              rw [hui, huo j hji]
              intro k hk hk2
              have := hnew k hk2
              have := (key j e' hj hl hji).1 k hk
              omega
            · rw [huo j hji, huo j' hji']
              exact HC.out j j' e' e'' hne hj hj' (key j e' hj hl hji).2 (key j' e'' hj' hl' hji').2
      clear hrg8 hf1 hf2 hblk hgr8 hfr8 hown8 hg8 hbw hgd hgd2 hgs hgs' hb2 hb2' hc2 d1 m0 m1 hfr78 hnum hsz8 hsz27 hhas7 hnk hn0 hn1 hn2 Hm7 Hb7 Hb07 Hrg7 Hbs Hfr7 Hat7 HB HC Hhas Hsz HL he hf hrlt hmany
      refine x_last ?_
      with_reducible refine x_end ?_
      simp only [Act.put, List.setIfInBounds_toArray, List.set_cons_zero, List.set_cons_succ]
      go_wp2_with fail
      go_roundw
      case rel => exact Hfin.out
      case measure => exact Hms.out
end Go.Proofs.YtaolddgnannojaaGreatDoor
