/-
  A file system in memory: files struck.
-/
import Derived.Test.YtaolddgnannojaaDoorFsDel
namespace Go.Proofs.YtaolddgnannojaaDoor
open Go.RowKit Go.Maps

attribute [local go_sem] lt1 lt2 lt3 lt4 lt5 lt6

def keepFl (q : Nat → Bool) (fs : List (Nat × FileC)) (fl : List (Nat × Value)) : List (Nat × Value) := ((fs.zip fl).filter fun p => q p.1.1).map (·.2)
theorem zip_fst : ∀ {fs : List (Nat × FileC)} {fl : List (Nat × Value)}, fs.length = fl.length → (fs.zip fl).map (·.1) = fs
  | [], [], _ => rfl
  | e :: fs, f :: fl, h => by simp [zip_fst (fs := fs) (fl := fl) (by simpa using h)]
  | [], _ :: _, h => by simp at h
  | _ :: _, [], h => by simp at h
theorem zip_snd : ∀ {fs : List (Nat × FileC)} {fl : List (Nat × Value)}, fs.length = fl.length → (fs.zip fl).map (·.2) = fl
  | [], [], _ => rfl
  | e :: fs, f :: fl, h => by simp [zip_snd (fs := fs) (fl := fl) (by simpa using h)]
  | [], _ :: _, h => by simp at h
  | _ :: _, [], h => by simp at h
theorem zip_back : ∀ l : List ((Nat × FileC) × (Nat × Value)), (l.map (·.1)).zip (l.map (·.2)) = l
  | [] => rfl
  | p :: l => by simp [zip_back l]
theorem keep_fst {q : Nat → Bool} {fs : List (Nat × FileC)} {fl : List (Nat × Value)} (h : fs.length = fl.length) : ((fs.zip fl).filter fun p => q p.1.1).map (·.1) = fs.filter fun e => q e.1 := by
  have := List.filter_map (f := fun p : (Nat × FileC) × (Nat × Value) => p.1) (l := fs.zip fl) (p := fun e => q e.1)
  rw [zip_fst h] at this
  rw [this]
  rfl
theorem all2_zip {Q : Nat × FileC → Nat × Value → Prop} : ∀ {fs : List (Nat × FileC)} {fl : List (Nat × Value)}, All2 Q fs fl → ∀ p ∈ fs.zip fl, Q p.1 p.2
  | [], [], _, p, hp => by simp at hp
  | e :: fs, f :: fl, h, p, hp => by
    simp only [List.zip_cons_cons, List.mem_cons] at hp
    rcases hp with rfl | hp
    · exact h.1
    · exact all2_zip h.2 p hp
  | [], _ :: _, h, _, _ => h.elim
  | _ :: _, [], h, _, _ => h.elim
theorem all2_of {Q : Nat × FileC → Nat × Value → Prop} : ∀ {l : List ((Nat × FileC) × (Nat × Value))}, (∀ p ∈ l, Q p.1 p.2) → All2 Q (l.map (·.1)) (l.map (·.2))
  | [], _ => trivial
  | p :: l, h => ⟨h p (by simp), all2_of fun x hx => h x (by simp [hx])⟩
theorem sub_flat {α : Type} (B : α → List Nat) : ∀ {l m : List α}, l.Sublist m → (l.flatMap B).Sublist (m.flatMap B)
  | _, _, .slnil => .slnil
  | _, _, .cons a h => by
    rw [List.flatMap_cons]
    exact (sub_flat B h).trans (List.sublist_append_right _ _)
  | _, _, .cons_cons a h => by
    rw [List.flatMap_cons, List.flatMap_cons]
    exact List.Sublist.append (List.Sublist.refl _) (sub_flat B h)
theorem fD_struck {f : Nat → Nat} {q : Nat → Bool} {fs : List (Nat × FileC)} {fl : List (Nat × Value)} (h : fs.length = fl.length) (hq : ∀ n, f n ≠ 0 ↔ q n = true) :
    Lib.deleteFuncD (unusedB f) (fD fs fl) = fD (fs.filter fun e => q e.1) (keepFl q fs fl) := by
  unfold Lib.deleteFuncD fD keepFl
  simp only
  rw [← keep_fst h, zip_back, List.filter_map]
  congr 2
  apply List.filter_congr
  intro p _
  have h1 : litNat (ik p.1.1) = p.1.1 := rfl
  simp only [Function.comp, unusedB, h1]
  cases hb : q p.1.1 with
  | true =>
    have := (hq p.1.1).2 hb
    simp [this]
  | false =>
    have : ¬ f p.1.1 ≠ 0 := fun hh => by rw [(hq p.1.1).1 hh] at hb; cases hb
    simp at this
    simp [this]
theorem FsAt.struck {w w' : World} {M : FsMem} {S : FsSt} {f : Nat → Nat} {q : Nat → Bool} {n : Nat} (h : FsAt w M S) (hf : Fr [M.fm] w w') (hq : ∀ n, f n ≠ 0 ↔ q n = true)
    (hown : w'.ownsMap Tryd.prog 3 RPtr M.fm n (Lib.deleteFuncD (unusedB f) (fD S.files M.fl))) :
    FsAt w' { M with fl := keepFl q S.files M.fl } { S with files := S.files.filter fun e => q e.1 } ∧ Gr M w { M with fl := keepFl q S.files M.fl } w' := by
  have hnd := h.nodup
  have hlen := h.each.length
  have hsub : (keepFl q S.files M.fl).Sublist M.fl := by
    have := (List.filter_sublist (p := fun p : (Nat × FileC) × (Nat × Value) => q p.1.1) (l := S.files.zip M.fl)).map (·.2)
    rwa [zip_snd hlen] at this
  have hos : (FsMem.own { M with fl := keepFl q S.files M.fl }).Sublist M.own := by
    rw [FsMem.own_fb, FsMem.own_fb]
    exact List.Sublist.append (List.Sublist.refl _) (sub_flat fblks hsub)
  have hown2 : M.own = [M.fb] ++ [M.fm] ++ (M.nm :: M.dm :: (M.pv.ownBlock.toList ++ M.fl.flatMap fun f => f.1 :: f.2.ownBlock.toList)) := by simp [FsMem.own]
  have hfm : Frm [M.fm] w w' := ⟨hf, fun k hk _ => h.mays k (by rw [List.mem_singleton.1 hk]; simp [FsMem.own])⟩
  have ho : ∀ k, (k ∈ [M.fb] ∨ k ∈ (M.nm :: M.dm :: (M.pv.ownBlock.toList ++ M.fl.flatMap fun f => f.1 :: f.2.ownBlock.toList))) → k ∉ [M.fm] := by
    intro k hk hh
    have hh := List.mem_singleton.1 hh
    subst hh
    have hnd2 := hnd
    rw [hown2, List.append_assoc, List.nodup_append] at hnd2
    obtain ⟨hX, hBY, hd⟩ := hnd2
    rcases hk with hk | hk
    · exact hd _ hk _ (by simp) rfl
    · exact (List.nodup_cons.1 hBY).1 hk
  obtain ⟨cs, p1, p2⟩ := h.pend
  rw [fD_struck hlen hq] at hown
  have hsz : Maps.size (fD (S.files.filter fun e => q e.1) (keepFl q S.files M.fl)) = (S.files.filter fun e => q e.1).length := by
    unfold fD keepFl
    rw [← keep_fst hlen, zip_back]
    show (List.map _ _).length = _
    simp
  have hown := own_size hown
  rw [hsz] at hown
  refine ⟨⟨(hf.block _ (lt_of_heap h.blk) (ho _ (.inl (by simp)))).trans h.blk, map_kept h.names hf (ho _ (.inr (by simp))), map_kept h.dur hf (ho _ (.inr (by simp))), h.natN, h.natD, hown, ?_, ⟨cs, p1.mono fun _ _ h => h.kept hfm, row_kept p2 hf fun b hb => ho _ (.inr (by simp [hb]))⟩, hnd.sublist hos⟩, ⟨hf.more fun k hk => by rw [List.mem_singleton.1 hk]; simp [FsMem.own], fun k hk => .inl (hos.subset hk), rfl⟩⟩
  show All2 (FileAt w') (S.files.filter fun e => q e.1) (keepFl q S.files M.fl)
  rw [← keep_fst hlen]
  refine all2_of fun p hp => ?_
  have hpz := (List.mem_filter.1 hp).1
  have hpm : p.2 ∈ M.fl := by
    have := List.mem_map_of_mem (f := fun p : (Nat × FileC) × (Nat × Value) => p.2) hpz
    rwa [zip_snd hlen] at this
  refine (all2_zip h.each p hpz).kept hf (ho _ (.inr ?_)) fun b hb => ho _ (.inr ?_)
  · simp only [List.mem_cons, List.mem_append]
    exact .inr (.inr (.inr (List.mem_flatMap.2 ⟨p.2, hpm, by simp⟩)))
  · simp only [List.mem_cons, List.mem_append]
    exact .inr (.inr (.inr (List.mem_flatMap.2 ⟨p.2, hpm, by simp [hb]⟩)))
theorem fD_keys (fs : List (Nat × FileC)) (fl : List (Nat × Value)) : ∀ kl, has (fD fs fl) kl = true → ∃ n : Nat, kl = ik n := by
  intro kl h
  unfold fD at h
  rw [has_eq, List.any_eq_true] at h
  obtain ⟨p, hp, hs⟩ := h
  rw [← WideAt.sameKey_eq hs]
  obtain ⟨x, _, rfl⟩ := List.mem_map.1 hp
  exact ⟨_, rfl⟩
end Go.Proofs.YtaolddgnannojaaDoor
