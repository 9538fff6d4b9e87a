/-
  A file system in memory: a file that has turned.
  Append, Sync.
-/
import Derived.Test.YtaolddgnannojaaGreatDoorG7
namespace Go.Proofs.YtaolddgnannojaaGreatDoor
open Go.RowKit Go.Maps

attribute [local go_sem] lt1 lt2 lt3 lt4 lt5 lt6

theorem All2.of_at {α β : Type} {Q : α → β → Prop} : ∀ {l : List α} {m : List β}, l.length = m.length → (∀ (i : Nat) (a : α) (b : β), l[i]? = some a → m[i]? = some b → Q a b) → All2 Q l m
  | [], [], _, _ => trivial
  | [], _ :: _, h, _ => by simp at h
  | _ :: _, [], h, _ => by simp at h
  | a :: l, b :: m, h, hq => ⟨hq 0 a b rfl rfl, All2.of_at (by simpa using h) fun i x y h1 h2 => hq (i + 1) x y (by simpa using h1) (by simpa using h2)⟩
def fblks (f : Nat × Value) : List Nat := f.1 :: f.2.ownBlock.toList
theorem FsMem.own_fb (M : FsMem) : M.own = [M.fb, M.fm, M.nm, M.dm] ++ M.pv.ownBlock.toList ++ M.fl.flatMap fblks := by
  simp [FsMem.own]
  rfl
theorem flat_apart {α : Type} (B : α → List Nat) : ∀ {l : List α}, (l.flatMap B).Nodup → ∀ {i j : Nat} {f e : α}, i ≠ j → l[i]? = some f → l[j]? = some e → ∀ k, k ∈ B e → k ∉ B f
  | [], _, i, _, _, _, _, hi, _ => by simp at hi
  | x :: l, h, i, j, f, e, hij, hi, hj => by
    rw [List.flatMap_cons, List.nodup_append] at h
    obtain ⟨_, hr, hd⟩ := h
    intro k hk hk2
    cases i with
    | zero => cases j with
      | zero => exact hij rfl
      | succ j =>
        simp at hi hj
        subst hi
        exact hd k hk2 k (List.mem_flatMap.2 ⟨e, List.mem_of_getElem? hj, hk⟩) rfl
    | succ i => cases j with
      | zero =>
        simp at hi hj
        subst hj
        exact hd k hk k (List.mem_flatMap.2 ⟨f, List.mem_of_getElem? hi, hk2⟩) rfl
      | succ j => exact flat_apart B hr (i := i) (j := j) (by omega) (by simpa using hi) (by simpa using hj) k hk hk2
theorem fblks_apart {fl : List (Nat × Value)} (h : (fl.flatMap fblks).Nodup) {i j : Nat} {f e : Nat × Value} (hij : i ≠ j) (hi : fl[i]? = some f) (hj : fl[j]? = some e) : ∀ k, k ∈ fblks e → k ∉ fblks f := flat_apart fblks h hij hi hj
theorem set_split {α : Type} {l : List α} {i : Nat} {x : α} (h : l[i]? = some x) (y : α) : l = l.take i ++ x :: l.drop (i + 1) ∧ l.set i y = l.take i ++ y :: l.drop (i + 1) := by
  obtain ⟨hi, rfl⟩ := List.getElem?_eq_some_iff.1 h
  refine ⟨?_, by rw [List.set_eq_take_append_cons_drop, if_pos hi]⟩
  rw [← List.drop_eq_getElem_cons hi, List.take_append_drop]
theorem fD_set {fs : List (Nat × FileC)} {fl : List (Nat × Value)} {i n g : Nat} {c c' : FileC} {v v' : Value} (h1 : fs[i]? = some (n, c)) (h2 : fl[i]? = some (g, v)) : fD (fs.set i (n, c')) (fl.set i (g, v')) = fD fs fl := by
  unfold fD
  congr 1
  apply List.ext_getElem?
  intro j
  simp only [List.getElem?_map, List.zip, List.getElem?_zipWith, List.getElem?_set]
  obtain ⟨hi1, e1⟩ := List.getElem?_eq_some_iff.1 h1
  obtain ⟨hi2, e2⟩ := List.getElem?_eq_some_iff.1 h2
  by_cases hij : i = j
  · subst hij
    simp [hi1, hi2, e1, e2]
  · simp [hij]
theorem FsAt.refiled {w w' : World} {M : FsMem} {S : FsSt} {i n g : Nat} {v v' : Value} {c c' : FileC} (h : FsAt w M S) (h1 : S.files[i]? = some (n, c)) (h2 : M.fl[i]? = some (g, v)) (hf : Fr (g :: v.ownBlock.toList) w w')
    (hfile : FileAt w' (n, c') (g, v')) (hv : v'.ownBlock = v.ownBlock ∨ ∀ b, v'.ownBlock = some b → w.heap.size ≤ b) :
    FsAt w' { M with fl := M.fl.set i (g, v') } { S with files := S.files.set i (n, c') } ∧ Gr M w { M with fl := M.fl.set i (g, v') } w' := by
  have hnd := h.nodup
  have hlt := h.lt
  have hmem : (g, v) ∈ M.fl := List.mem_of_getElem? h2
  obtain ⟨s1, s2⟩ := set_split h2 (g, v')
  have hown := M.own_fb
  have hsub : ∀ k, k ∈ g :: v.ownBlock.toList → k ∈ M.own := fun k hk => by
    rw [hown]
    simp only [List.mem_append, List.mem_flatMap]
    exact .inr ⟨_, hmem, hk⟩
  have hfm : Frm (g :: v.ownBlock.toList) w w' := ⟨hf, fun k hk _ => h.mays k (hsub k hk)⟩
  have hnd2 := hnd
  rw [hown, List.nodup_append] at hnd2
  obtain ⟨hX, hY, hd⟩ := hnd2
  have ho : ∀ k, k ∈ [M.fb, M.fm, M.nm, M.dm] ++ M.pv.ownBlock.toList → k ∉ g :: v.ownBlock.toList := fun k hk hh => hd k hk k (List.mem_flatMap.2 ⟨_, hmem, hh⟩) rfl
  obtain ⟨cs, p1, p2⟩ := h.pend
  have hlen := h.each.length
  refine ⟨⟨(hf.block _ (lt_of_heap h.blk) (ho _ (by simp))).trans h.blk, map_kept h.names hf (ho _ (by simp)), map_kept h.dur hf (ho _ (by simp)), h.natN, h.natD, ?_, ?_, ⟨cs, p1.mono fun _ _ h => h.kept hfm, row_kept p2 hf fun b hb => ho _ (by simp [hb])⟩, ?_⟩, hf.more hsub, ?_, rfl⟩
  · show w'.ownsMap _ _ _ M.fm (S.files.set i (n, c')).length (fD (S.files.set i (n, c')) (M.fl.set i (g, v')))
    rw [fD_set h1 h2, List.length_set]
    exact map_kept h.files hf (ho _ (by simp))
  · refine All2.of_at (by simpa using hlen) fun j a b ha hb => ?_
    by_cases hij : i = j
    · subst hij
      have hi1 := (List.getElem?_eq_some_iff.1 h1).1
      have hi2 := (List.getElem?_eq_some_iff.1 h2).1
      simp [hi1] at ha
      simp [hi2] at hb
      subst ha hb
      exact hfile
    · rw [List.getElem?_set_ne hij] at ha hb
      have hap := fblks_apart hY hij h2 hb
      refine (All2.at2 h.each ha hb).kept hf (hap _ (by simp [fblks])) fun q hq => hap _ (by simp [fblks, hq])
  · show (FsMem.own { M with fl := M.fl.set i (g, v') }).Nodup
    rw [FsMem.own_fb]
    show ([M.fb, M.fm, M.nm, M.dm] ++ M.pv.ownBlock.toList ++ (M.fl.set i (g, v')).flatMap fblks).Nodup
    rw [hown, s1] at hnd hlt
    rw [s2]
    have e : ∀ u : Value, [M.fb, M.fm, M.nm, M.dm] ++ M.pv.ownBlock.toList ++ (M.fl.take i ++ (g, u) :: M.fl.drop (i + 1)).flatMap fblks = ([M.fb, M.fm, M.nm, M.dm] ++ M.pv.ownBlock.toList ++ (M.fl.take i).flatMap fblks ++ [g]) ++ u.ownBlock.toList ++ (M.fl.drop (i + 1)).flatMap fblks := fun u => by
      simp [fblks, List.flatMap_append]
    rw [e] at hnd hlt ⊢
    exact nodup_part hnd hlt (hv.imp (fun e => by rw [e]) fun e => ⟨blk_toList, fun k hk => e k (by simpa using hk)⟩)
  · intro k hk
    rw [FsMem.own_fb] at hk
    rw [hown]
    simp only [s2, List.flatMap_append, List.mem_append, List.flatMap_cons] at hk
    have hs : ∀ f, f ∈ M.fl.take i ∨ f ∈ M.fl.drop (i + 1) → f ∈ M.fl := fun f hf => hf.elim List.mem_of_mem_take List.mem_of_mem_drop
    rcases hk with hk | hk | hk | hk
    · exact .inl (by simp only [List.mem_append]; exact .inl hk)
    · obtain ⟨f, hf, hk⟩ := List.mem_flatMap.1 hk
      exact .inl (by simp only [List.mem_append, List.mem_flatMap]; exact .inr ⟨f, hs f (.inl hf), hk⟩)
    · rcases List.mem_cons.1 hk with rfl | hk
      · exact .inl (by simp only [List.mem_append, List.mem_flatMap]; exact .inr ⟨_, hmem, by simp [fblks]⟩)
      · rcases hv with e | e
        · exact .inl (by simp only [List.mem_append, List.mem_flatMap]; exact .inr ⟨_, hmem, by simp only [fblks]; rw [← e]; exact List.mem_cons_of_mem _ hk⟩)
        · exact .inr (e k (by simpa using hk))
    · obtain ⟨f, hf, hk⟩ := List.mem_flatMap.1 hk
      exact .inl (by simp only [List.mem_append, List.mem_flatMap]; exact .inr ⟨f, hs f (.inr hf), hk⟩)
end Go.Proofs.YtaolddgnannojaaGreatDoor
namespace Go.Proofs.YtaolddgnannojaaGreatDoor
open Go.RowKit Go.Maps

attribute [local go_sem] lt1 lt2 lt3 lt4 lt5 lt6

def FsSt.fileD (S : FsSt) (i : Nat) : Nat × FileC := S.files.getD i (0, ⟨[], 0⟩)
def FsSt.append1 (S : FsSt) (i : Nat) (d : List UInt8) : FsSt :=
  { S with files := S.files.set i ((S.fileD i).1, { (S.fileD i).2 with d := (S.fileD i).2.d ++ d }), size := S.size + d.length }
theorem getD_some {α : Type} {l : List α} {i : Nat} (h : i < l.length) (x : α) : l[i]? = some (l.getD i x) := by rw [List.getD_eq_getElem?_getD, List.getElem?_eq_getElem h]; rfl
set_option maxHeartbeats 4000000 in
set_option maxRecDepth 10000 in
theorem append1_any (w : World) (M : FsMem) (S : FsSt) (h : FsAt w M S) (i : Nat) (hi : i < S.files.length) (d : List UInt8) (A : Option Addr) (c : Nat) (bx b1 b0 : Nat)
    (hx : w.heap[bx]? = some (.cells #[.pointer (some ⟨(M.fl.getD i (0, undef)).1, 0, none⟩)] 55 (0, 0))) (h1 : w.heap[b1]? = some (.cells #[.slice A d.length c] 29 (0, 0))) (h0 : w.heap[b0]? = some (.cells #[.pointer (some ⟨M.fb, 0, none⟩)] 25 (0, 0)))
    (hb : Bs w A c d) (hd : d.length ≤ 1099511627776) (hl : (S.fileD i).2.d.length ≤ 1099511627776) (hz : -1099511627776 ≤ S.size ∧ S.size ≤ 1099511627776) :
    Calls Tryz.prog 60 #[.pointer (some ⟨bx, 0, none⟩), .pointer (some ⟨b1, 0, none⟩), .pointer (some ⟨b0, 0, none⟩)] w (ChsPost w M (S.append1 i d)) := by
  have hf := h.fileAt hi
  have hml : i < M.fl.length := by rw [← h.each.length]; exact hi
  have e1 := getD_some hi (0, ⟨[], 0⟩)
  have e2 := getD_some hml (0, undef)
  change S.files[i]? = some (S.fileD i) at e1
  change FileAt w (S.fileD i) _ at hf
  unfold FsSt.append1
  obtain ⟨⟨n, ⟨d0, sy⟩⟩, hc⟩ : ∃ X, X = S.fileD i := ⟨_, rfl⟩
  obtain ⟨⟨gf, v⟩, hfe⟩ : ∃ X, X = M.fl.getD i (0, undef) := ⟨_, rfl⟩
  rw [← hc] at e1 hf hl ⊢
  rw [← hfe] at e2 hf hx
  have H := Lib.hid h
  have E1 := Lib.hid e1
  have E2 := Lib.hid e2
  have HF := Lib.hid hf
  have HB := Lib.hid hb
  have X0 := Lib.hid h0
  have X1 := Lib.hid h1
  have XX := Lib.hid hx
  have dx : w.drew.cell? ⟨bx, 0, none⟩ = some (.pointer (some ⟨gf, 0, none⟩)) := box_cell hx
  have d1 : w.drew.cell? ⟨b1, 0, none⟩ = some (.slice A d.length c) := box_cell h1
  have dv : w.drew.cell? ⟨gf, 0, none⟩ = some v := (blk_cells hf.1).1 0
  clear h e1 e2 hf hb h0 h1 hx hc hfe
  go_enter Tryz.func60, Tryz.ntmps60
  go_wp2_with fail
  with_reducible refine g_mixx [(0, 0), (1, 0), (2, 0), (3, 0), (4, 0), (5, 0), (6, 2), (7, 0), (8, 0), (9, 3)] (fun w' => (w'.cell? ⟨bx, 0, none⟩ = some (.pointer (some ⟨gf, 0, none⟩)) ∧ w'.cell? ⟨b1, 0, none⟩ = some (.slice A d.length c)) ∧ w'.cell? ⟨gf, 0, none⟩ = some v) 0 _ rfl (by kernel_rfl) (by kernel_rfl) ?_ ?_
  · exact ⟨⟨dx, d1⟩, dv⟩
  intro OPS HD
  simp only [mixX, nthO, consX]
  iterate 6 ((with_reducible refine x_val (v := ?_) ?_ ?_ ?_); rotate_left; (rintro _ ⟨⟨h1, h2⟩, h3⟩; go_simp; first | done | rfl | (constructor <;> rfl)); exact ⟨⟨dx, d1⟩, dv⟩)
  with_reducible refine x_one ?_
  refine append_data rfl (.tmp 7) (.tmp 8) rfl v d0 ?_ (show DataAt w.drew v d0 from HF.out.2) A c d ?_ (HB.out.keep fun _ _ h => h) (by omega) ?_
  · simp [Act.eval, Act.put]
  · simp [Act.eval, Act.put]
  intro v' w1 hdat hfr hat
  obtain ⟨Av, cv, hv'⟩ := data_form hdat
  subst hv'
  have hvo : ∀ k, k ∈ v.ownBlock.toList → k ∈ M.own := fun k hk => by
    rw [FsMem.own_fb]
    simp only [List.mem_append, List.mem_flatMap]
    exact .inr ⟨_, List.mem_of_getElem? E2.out, by simp only [fblks]; exact List.mem_cons_of_mem _ hk⟩
  have hfm : Frm v.ownBlock.toList w.drew w1 := ⟨hfr, fun k hk _ => H.out.mays k (hvo k hk)⟩
  have hgv : gf ∉ v.ownBlock.toList := fun hh => by
    obtain ⟨cur, hc⟩ := data_blk HF.out.2 gf (by simpa using hh)
    have h5 := HF.out.1
    simp only at h5
    rw [hc] at h5
    simp at h5
  have x0 : w1.heap[b0]? = some (.cells #[.pointer (some ⟨M.fb, 0, none⟩)] 25 (0, 0)) := box_keptT hfm (show w.drew.heap[b0]? = _ from X0.out) boxFS
  have x1 : w1.heap[b1]? = some (.cells #[.slice A d.length c] 29 (0, 0)) := box_keptT hfm (show w.drew.heap[b1]? = _ from X1.out) boxBytes
  have xx : w1.heap[bx]? = some (.cells #[.pointer (some ⟨gf, 0, none⟩)] 55 (0, 0)) := box_keptT hfm (show w.drew.heap[bx]? = _ from XX.out) boxFile
  have xg : w1.heap[gf]? = some (.cells #[v, .int .i64 (sy : Nat)] 58 (0, 0)) := (hfr.block gf (lt_of_heap (w := w.drew) HF.out.1) hgv).trans HF.out.1
  have ex := box_cell xx
  have e1 := box_cell x1
  have ev : w1.cell? ⟨gf, 0, none⟩ = some v := (blk_cells xg).1 0
  have fg : w1.frozen? ⟨gf, 0, none⟩ = false := (blk_cells xg).2.1 0
  refine x_keep ⟨⟨ex, e1⟩, ev⟩ ?_
  iterate 2 ((with_reducible refine x_val (v := ?_) ?_ ?_ ?_); rotate_left; (rintro _ ⟨⟨h1, h2⟩, h3⟩; go_simp; first | done | rfl | (constructor <;> rfl)); exact ⟨⟨ex, e1⟩, ev⟩)
  with_reducible refine x_three ?_
  with_reducible refine l_skip (w' := w1.setCell ⟨gf, 0, none⟩ (.slice Av (d0 ++ d).length cv)) ?_ ?_
  · go_simp
  refine x_last ?_
  with_reducible refine x_end ?_
  simp only [Act.put, List.setIfInBounds_toArray, List.set_cons_zero, List.set_cons_succ]
  have hg2 := heap_setCell_at xg 0 (.slice Av (d0 ++ d).length cv)
  have hfr2 : Fr [gf] w1 (w1.setCell ⟨gf, 0, none⟩ (.slice Av (d0 ++ d).length cv)) := Fr.setCell _ _ _ _ (by simp)
  have hbn : ∀ b, (Value.slice Av (d0 ++ d).length cv).ownBlock = some b → b ∉ [gf] := fun b hb hh => by
    obtain ⟨cur, hc⟩ := data_blk hdat b hb
    rw [List.mem_singleton.1 hh, xg] at hc
    simp at hc
  have hfr3 : Fr (gf :: v.ownBlock.toList) w (w1.setCell ⟨gf, 0, none⟩ (.slice Av (d0 ++ d).length cv)) := ((((Fr.refl v.ownBlock.toList w).drewN 1).trans hfr).more fun k hk => List.mem_cons_of_mem _ hk).trans (hfr2.more fun k hk => by rw [List.mem_singleton.1 hk]; simp)
  obtain ⟨h4, g4⟩ := H.out.refiled (c' := ⟨d0 ++ d, sy⟩) (v' := .slice Av (d0 ++ d).length cv) E1.out E2.out hfr3 ⟨hg2, data_kept hdat hfr2 hbn⟩ (hat.imp id fun h b hb => h b hb)
  have hfm3 : Frm (gf :: v.ownBlock.toList) w (w1.setCell ⟨gf, 0, none⟩ (.slice Av (d0 ++ d).length cv)) := ⟨hfr3, fun k hk _ => H.out.mays k (by
    rcases List.mem_cons.1 hk with rfl | hk
    · rw [FsMem.own_fb]
      simp only [List.mem_append, List.mem_flatMap]
      exact .inr ⟨_, List.mem_of_getElem? E2.out, by simp [fblks]⟩
    · exact hvo k hk)⟩
  have Y0 := Lib.hid (box_keptT hfm3 X0.out boxFS)
  have Y1 := Lib.hid (box_keptT hfm3 X1.out boxBytes)
  have H4 := Lib.hid h4
  have G4 := Lib.hid g4
  clear hg2 hfr2 hbn hfr3 h4 g4 hfm3 x0 x1 xx xg ex e1 ev fg hfm hgv hvo hdat hfr hat dx d1 dv X0 X1 XX HF HB E1 E2 H
  generalize w1.setCell ⟨gf, 0, none⟩ (.slice Av (d0 ++ d).length cv) = w2 at *
  obtain ⟨M2, hM2⟩ : ∃ X, X = { M with fl := M.fl.set i (gf, Value.slice Av (d0 ++ d).length cv) } := ⟨_, rfl⟩
  rw [← hM2] at H4 G4
  have hfb : M.fb = M2.fb := by rw [hM2]
  rw [hfb] at Y0
  clear hM2
  go_wp2_with fail
  have a0 : w2.drew.cell? ⟨b0, 0, none⟩ = some (.pointer (some ⟨M2.fb, 0, none⟩)) := box_cell Y0.out
  have a1 : w2.drew.cell? ⟨b1, 0, none⟩ = some (.slice A d.length c) := box_cell Y1.out
  have a5 : w2.drew.cell? ⟨M2.fb, 5, none⟩ = some (.int .i64 S.size) := (H4.out.cell 5 _ rfl).1
  have f5 : w2.drew.frozen? ⟨M2.fb, 5, none⟩ = false := (blk_cells H4.out.blk).2.1 5
  have r1 : IntKind.i64.wrap (S.size + (d.length : Nat)) = S.size + (d.length : Nat) := by rw [IntKind.wrap_i64]; omega
  with_reducible refine g_mix [(0, none), (1, none), (2, none), (3, none), (4, none), (5, none), (6, none), (7, none), (8, none), (9, some true)] (fun w' => (w'.cell? ⟨b0, 0, none⟩ = some (.pointer (some ⟨M2.fb, 0, none⟩)) ∧ w'.cell? ⟨b1, 0, none⟩ = some (.slice A d.length c)) ∧ w'.cell? ⟨M2.fb, 5, none⟩ = some (.int .i64 S.size)) (by kernel_rfl) (by kernel_rfl) ?_
  intro OPS
  simp only [mixOf, nthO, consO]
  iterate 9 ((with_reducible refine m_val (v := ?_) ?_ ?_ ?_); rotate_left; (rintro _ ⟨⟨h1, h2⟩, h3⟩; (try simp only [r1]); go_simp; first | done | rfl | (constructor <;> rfl)); exact ⟨⟨a0, a1⟩, a5⟩)
  with_reducible refine m_one ?_
  with_reducible refine l_skip (w' := w2.drew.setCell ⟨M2.fb, 5, none⟩ (.int .i64 (S.size + (d.length : Nat)))) ?_ ?_
  · go_simp
  with_reducible refine m_last ?_
  with_reducible refine m_end ?_
  simp only [Act.put, List.setIfInBounds_toArray, List.set_cons_zero, List.set_cons_succ]
  obtain ⟨h7, f7⟩ := (show FsAt w2.drew M2 _ from H4.out.drewN 1).put (S' := { S with files := S.files.set i (n, ⟨d0 ++ d, sy⟩), size := S.size + d.length }) 5 (.int .i64 (S.size + (d.length : Nat))) rfl rfl rfl rfl rfl
  have Hfin : Hid (ChsPost w M { S with files := S.files.set i (n, ⟨d0 ++ d, sy⟩), size := S.size + d.length } (.returned (.tuple #[])) (w2.drew.setCell ⟨M2.fb, 5, none⟩ (.int .i64 (S.size + (d.length : Nat))))) := Lib.hid ⟨rfl, M2, h7, G4.out.trans ((show Gr M2 w2 M2 w2.drew from ⟨(Fr.refl _ _).drewN 1, fun _ h => .inl h, rfl⟩).trans (Gr.own f7))⟩
  clear h7 f7 a0 a1 a5 f5 Y0 Y1 H4 G4
  go_wp2_with fail
  go_end0
  exact Hfin.out
end Go.Proofs.YtaolddgnannojaaGreatDoor
