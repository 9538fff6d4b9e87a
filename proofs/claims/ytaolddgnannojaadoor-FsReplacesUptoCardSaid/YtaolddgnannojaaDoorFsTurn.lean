/-
  A file system in memory: a file that has turned.
-/
import Derived.Test.YtaolddgnannojaaDoorFsData
namespace Go.Proofs.YtaolddgnannojaaDoor
open Go.RowKit Go.Maps

attribute [local go_sem] lt1 lt2 lt3 lt4 lt5 lt6

theorem All2.of_at {α β : Type} {Q : α → β → Prop} : ∀ {l : List α} {m : List β}, l.length = m.length → (∀ (i : Nat) (a : α) (b : β), l[i]? = some a → m[i]? = some b → Q a b) → All2 Q l m
  | [], [], _, _ => trivial
  | [], _ :: _, h, _ => by simp at h
  | _ :: _, [], h, _ => by simp at h
  | a :: l, b :: m, h, hq => ⟨hq 0 a b rfl rfl, All2.of_at (by simpa using h) fun i x y h1 h2 => hq (i + 1) x y (by simpa using h1) (by simpa using h2)⟩
def fblks (f : Nat × Value) : List Nat := f.1 :: f.2.ownBlock.toList
theorem FsMem.own_fb (M : FsMem) : M.own = [M.fb, M.fm, M.nm, M.dm] ++ M.pv.ownBlock.toList ++ M.fl.flatMap fblks := by
  simp [FsMem.own]
  rfl
theorem flat_apart {α : Type} (B : α → List Nat) : ∀ {l : List α}, (l.flatMap B).Nodup → ∀ {i j : Nat} {f e : α}, i ≠ j → l[i]? = some f → l[j]? = some e → ∀ k, k ∈ B e → k ∉ B f
  | [], _, i, _, _, _, _, hi, _ => by simp at hi
  | x :: l, h, i, j, f, e, hij, hi, hj => by
    rw [List.flatMap_cons, List.nodup_append] at h
    obtain ⟨_, hr, hd⟩ := h
    intro k hk hk2
    cases i with
    | zero => cases j with
      | zero => exact hij rfl
      | succ j =>
        simp at hi hj
        subst hi
        exact hd k hk2 k (List.mem_flatMap.2 ⟨e, List.mem_of_getElem? hj, hk⟩) rfl
    | succ i => cases j with
      | zero =>
        simp at hi hj
        subst hj
        exact hd k hk k (List.mem_flatMap.2 ⟨f, List.mem_of_getElem? hi, hk2⟩) rfl
      | succ j => exact flat_apart B hr (i := i) (j := j) (by omega) (by simpa using hi) (by simpa using hj) k hk hk2
theorem fblks_apart {fl : List (Nat × Value)} (h : (fl.flatMap fblks).Nodup) {i j : Nat} {f e : Nat × Value} (hij : i ≠ j) (hi : fl[i]? = some f) (hj : fl[j]? = some e) : ∀ k, k ∈ fblks e → k ∉ fblks f := flat_apart fblks h hij hi hj
theorem set_split {α : Type} {l : List α} {i : Nat} {x : α} (h : l[i]? = some x) (y : α) : l = l.take i ++ x :: l.drop (i + 1) ∧ l.set i y = l.take i ++ y :: l.drop (i + 1) := by
  obtain ⟨hi, rfl⟩ := List.getElem?_eq_some_iff.1 h
  refine ⟨?_, by rw [List.set_eq_take_append_cons_drop, if_pos hi]⟩
  rw [← List.drop_eq_getElem_cons hi, List.take_append_drop]
theorem fD_set {fs : List (Nat × FileC)} {fl : List (Nat × Value)} {i n g : Nat} {c c' : FileC} {v v' : Value} (h1 : fs[i]? = some (n, c)) (h2 : fl[i]? = some (g, v)) : fD (fs.set i (n, c')) (fl.set i (g, v')) = fD fs fl := by
  unfold fD
  congr 1
  apply List.ext_getElem?
  intro j
  simp only [List.getElem?_map, List.zip, List.getElem?_zipWith, List.getElem?_set]
  obtain ⟨hi1, e1⟩ := List.getElem?_eq_some_iff.1 h1
  obtain ⟨hi2, e2⟩ := List.getElem?_eq_some_iff.1 h2
  by_cases hij : i = j
  · subst hij
    simp [hi1, hi2, e1, e2]
  · simp [hij]
theorem FsAt.refiled {w w' : World} {M : FsMem} {S : FsSt} {i n g : Nat} {v v' : Value} {c c' : FileC} (h : FsAt w M S) (h1 : S.files[i]? = some (n, c)) (h2 : M.fl[i]? = some (g, v)) (hf : Fr (g :: v.ownBlock.toList) w w')
    (hfile : FileAt w' (n, c') (g, v')) (hv : v'.ownBlock = v.ownBlock ∨ ∀ b, v'.ownBlock = some b → w.heap.size ≤ b) :
    FsAt w' { M with fl := M.fl.set i (g, v') } { S with files := S.files.set i (n, c') } ∧ Gr M w { M with fl := M.fl.set i (g, v') } w' := by
  have hnd := h.nodup
  have hlt := h.lt
  have hmem : (g, v) ∈ M.fl := List.mem_of_getElem? h2
  obtain ⟨s1, s2⟩ := set_split h2 (g, v')
  have hown := M.own_fb
  have hsub : ∀ k, k ∈ g :: v.ownBlock.toList → k ∈ M.own := fun k hk => by
    rw [hown]
    simp only [List.mem_append, List.mem_flatMap]
    exact .inr ⟨_, hmem, hk⟩
  have hfm : Frm (g :: v.ownBlock.toList) w w' := ⟨hf, fun k hk _ => h.mays k (hsub k hk)⟩
  have hnd2 := hnd
  rw [hown, List.nodup_append] at hnd2
  obtain ⟨hX, hY, hd⟩ := hnd2
  have ho : ∀ k, k ∈ [M.fb, M.fm, M.nm, M.dm] ++ M.pv.ownBlock.toList → k ∉ g :: v.ownBlock.toList := fun k hk hh => hd k hk k (List.mem_flatMap.2 ⟨_, hmem, hh⟩) rfl
  obtain ⟨cs, p1, p2⟩ := h.pend
  have hlen := h.each.length
  refine ⟨⟨(hf.block _ (lt_of_heap h.blk) (ho _ (by simp))).trans h.blk, map_kept h.names hf (ho _ (by simp)), map_kept h.dur hf (ho _ (by simp)), h.natN, h.natD, ?_, ?_, ⟨cs, p1.mono fun _ _ h => h.kept hfm, row_kept p2 hf fun b hb => ho _ (by simp [hb])⟩, ?_⟩, hf.more hsub, ?_, rfl⟩
  · show w'.ownsMap _ _ _ M.fm (S.files.set i (n, c')).length (fD (S.files.set i (n, c')) (M.fl.set i (g, v')))
    rw [fD_set h1 h2, List.length_set]
    exact map_kept h.files hf (ho _ (by simp))
  · refine All2.of_at (by simpa using hlen) fun j a b ha hb => ?_
    by_cases hij : i = j
    · subst hij
      have hi1 := (List.getElem?_eq_some_iff.1 h1).1
      have hi2 := (List.getElem?_eq_some_iff.1 h2).1
      simp [hi1] at ha
      simp [hi2] at hb
      subst ha hb
      exact hfile
    · rw [List.getElem?_set_ne hij] at ha hb
      have hap := fblks_apart hY hij h2 hb
      refine (All2.at2 h.each ha hb).kept hf (hap _ (by simp [fblks])) fun q hq => hap _ (by simp [fblks, hq])
  · show (FsMem.own { M with fl := M.fl.set i (g, v') }).Nodup
    rw [FsMem.own_fb]
    show ([M.fb, M.fm, M.nm, M.dm] ++ M.pv.ownBlock.toList ++ (M.fl.set i (g, v')).flatMap fblks).Nodup
    rw [hown, s1] at hnd hlt
    rw [s2]
    have e : ∀ u : Value, [M.fb, M.fm, M.nm, M.dm] ++ M.pv.ownBlock.toList ++ (M.fl.take i ++ (g, u) :: M.fl.drop (i + 1)).flatMap fblks = ([M.fb, M.fm, M.nm, M.dm] ++ M.pv.ownBlock.toList ++ (M.fl.take i).flatMap fblks ++ [g]) ++ u.ownBlock.toList ++ (M.fl.drop (i + 1)).flatMap fblks := fun u => by
      simp [fblks, List.flatMap_append]
    rw [e] at hnd hlt ⊢
    exact nodup_part hnd hlt (hv.imp (fun e => by rw [e]) fun e => ⟨blk_toList, fun k hk => e k (by simpa using hk)⟩)
  · intro k hk
    rw [FsMem.own_fb] at hk
    rw [hown]
    simp only [s2, List.flatMap_append, List.mem_append, List.flatMap_cons] at hk
    have hs : ∀ f, f ∈ M.fl.take i ∨ f ∈ M.fl.drop (i + 1) → f ∈ M.fl := fun f hf => hf.elim List.mem_of_mem_take List.mem_of_mem_drop
    rcases hk with hk | hk | hk | hk
    · exact .inl (by simp only [List.mem_append]; exact .inl hk)
    · obtain ⟨f, hf, hk⟩ := List.mem_flatMap.1 hk
      exact .inl (by simp only [List.mem_append, List.mem_flatMap]; exact .inr ⟨f, hs f (.inl hf), hk⟩)
    · rcases List.mem_cons.1 hk with rfl | hk
      · exact .inl (by simp only [List.mem_append, List.mem_flatMap]; exact .inr ⟨_, hmem, by simp [fblks]⟩)
      · rcases hv with e | e
        · exact .inl (by simp only [List.mem_append, List.mem_flatMap]; exact .inr ⟨_, hmem, by simp only [fblks]; rw [← e]; exact List.mem_cons_of_mem _ hk⟩)
        · exact .inr (e k (by simpa using hk))
    · obtain ⟨f, hf, hk⟩ := List.mem_flatMap.1 hk
      exact .inl (by simp only [List.mem_append, List.mem_flatMap]; exact .inr ⟨f, hs f (.inr hf), hk⟩)
end Go.Proofs.YtaolddgnannojaaDoor
