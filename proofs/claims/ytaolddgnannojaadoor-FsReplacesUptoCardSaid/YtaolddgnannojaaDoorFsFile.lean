/-
  A file system in memory: a file more; a file that has turned.
-/
import Derived.Test.YtaolddgnannojaaDoorFsWr
namespace Go.Proofs.YtaolddgnannojaaDoor
open Go.RowKit Go.Maps

attribute [local go_sem] lt1 lt2 lt3 lt4 lt5 lt6

theorem insert_last (x : Lit × Dm) : ∀ l : List (Lit × Dm), (∀ y ∈ l, x.1.before y.1 = false) → DataW.insert x l = l ++ [x]
  | [], _ => rfl
  | y :: l, h => by
    unfold DataW.insert
    rw [if_neg (by rw [h y (by simp)]; simp), insert_last x l fun z hz => h z (by simp [hz])]
    rfl
theorem fD_snoc {fs : List (Nat × FileC)} {fl : List (Nat × Value)} (hl : fs.length = fl.length) {n g : Nat} {c : FileC} {v : Value} (hn : ∀ e ∈ fs, e.1 < n) :
    (fD fs fl).put (ik n) (nval g) = fD (fs ++ [(n, c)]) (fl ++ [(g, v)]) := by
  unfold fD DataW.put
  simp only
  have hmem : ∀ y ∈ (fs.zip fl).map (fun p => (ik p.1.1, nval p.2.1)), ∃ a : Nat, a < n ∧ y.1 = ik a := by
    intro y hy
    obtain ⟨p, hp, rfl⟩ := List.mem_map.1 hy
    exact ⟨p.1.1, hn _ (List.of_mem_zip hp).1, rfl⟩
  have hfil : ((fs.zip fl).map (fun p => (ik p.1.1, nval p.2.1))).filter (fun p => !p.1.sameKey (ik n)) = (fs.zip fl).map (fun p => (ik p.1.1, nval p.2.1)) := by
    rw [List.filter_eq_self]
    intro y hy
    obtain ⟨a, ha, e⟩ := hmem y hy
    rw [e, ik_same]
    simp
    omega
  rw [hfil, insert_last _ _ fun y hy => by
    obtain ⟨a, ha, e⟩ := hmem y hy
    rw [e]
    unfold ik Lit.before
    simp
    omega, List.zip_append hl]
  simp
theorem All2.at2 {α β : Type} {Q : α → β → Prop} : ∀ {l : List α} {m : List β} {i : Nat} {a : α} {b : β}, All2 Q l m → l[i]? = some a → m[i]? = some b → Q a b
  | x :: l, y :: m, 0, a, b, h, h1, h2 => by
    simp at h1 h2
    subst h1 h2
    exact h.1
  | x :: l, y :: m, i + 1, a, b, h, h1, h2 => All2.at2 (i := i) h.2 (by simpa using h1) (by simpa using h2)
  | [], _, _, _, _, _, h1, _ => by simp at h1
  | _ :: _, [], _, _, _, h, _, _ => h.elim
theorem FsMem.own_fl (M : FsMem) : M.own = [M.fb, M.fm, M.nm, M.dm] ++ M.pv.ownBlock.toList ++ M.fl.flatMap fun f => f.1 :: f.2.ownBlock.toList := by simp [FsMem.own]
/-- a file more -/
theorem FsAt.filed {w w' : World} {M : FsMem} {S : FsSt} {n gf : Nat} {c : FileC} {v : Value} (h : FsAt w M S) (hf : Fr [M.fm] w w')
    (hown : w'.ownsMap Tryd.prog 3 RPtr M.fm (S.files.length + 1) ((fD S.files M.fl).put (ik n) (nval gf))) (hn : ∀ e ∈ S.files, e.1 < n)
    (hfile : FileAt w' (n, c) (gf, v)) (hg : w.heap.size ≤ gf) (hv : ∀ b, v.ownBlock = some b → w.heap.size ≤ b ∧ b ≠ gf) :
    FsAt w' { M with fl := M.fl ++ [(gf, v)] } { S with files := S.files ++ [(n, c)] } ∧ Gr M w { M with fl := M.fl ++ [(gf, v)] } w' := by
  have hnd := h.nodup
  have hlt := h.lt
  have hown2 : M.own = [M.fb] ++ [M.fm] ++ (M.nm :: M.dm :: (M.pv.ownBlock.toList ++ M.fl.flatMap fun f => f.1 :: f.2.ownBlock.toList)) := by simp [FsMem.own]
  have hfm : Frm [M.fm] w w' := ⟨hf, fun k hk _ => h.mays k (by rw [List.mem_singleton.1 hk]; simp [FsMem.own])⟩
  have ho : ∀ k, (k ∈ [M.fb] ∨ k ∈ (M.nm :: M.dm :: (M.pv.ownBlock.toList ++ M.fl.flatMap fun f => f.1 :: f.2.ownBlock.toList))) → k ∉ [M.fm] := by
    intro k hk hh
    have hh := List.mem_singleton.1 hh
    subst hh
    rw [hown2, List.append_assoc, List.nodup_append] at hnd
    obtain ⟨hX, hBY, hd⟩ := hnd
    rcases hk with hk | hk
    · exact hd _ hk _ (by simp) rfl
    · exact (List.nodup_cons.1 hBY).1 hk
  obtain ⟨cs, p1, p2⟩ := h.pend
  have hnew : FsMem.own { M with fl := M.fl ++ [(gf, v)] } = M.own ++ (gf :: v.ownBlock.toList) := by simp [FsMem.own]
  refine ⟨⟨(hf.block _ (lt_of_heap h.blk) (ho _ (.inl (by simp)))).trans h.blk, map_kept h.names hf (ho _ (.inr (by simp))), map_kept h.dur hf (ho _ (.inr (by simp))), h.natN, h.natD, ?_, ?_, ⟨cs, p1.mono fun _ _ h => h.kept hfm, row_kept p2 hf fun b hb => ho _ (.inr (by simp [hb]))⟩, ?_⟩, ?_⟩
  · rw [fD_snoc (c := c) (v := v) h.each.length hn] at hown
    rw [List.length_append]
    exact hown
  · refine All2.append hfile (all2_kept h.each fun e f hm hfa => hfa.kept hf (ho _ (.inr ?_)) fun b hb => ho _ (.inr ?_))
    · simp only [List.mem_cons, List.mem_append]
      exact .inr (.inr (.inr (List.mem_flatMap.2 ⟨f, hm, by simp⟩)))
    · simp only [List.mem_cons, List.mem_append]
      exact .inr (.inr (.inr (List.mem_flatMap.2 ⟨f, hm, by simp [hb]⟩)))
  · rw [hnew, List.nodup_append]
    refine ⟨hnd, ?_, fun a ha b hb e => ?_⟩
    · rw [List.nodup_cons]
      refine ⟨fun hh => ?_, blk_toList⟩
      have := (hv gf (by simpa using hh)).2
      exact this rfl
    · subst e
      have h1 := hlt a ha
      rcases List.mem_cons.1 hb with rfl | hb
      · omega
      · have := (hv a (by simpa using hb)).1
        omega
  · refine ⟨hf.more fun k hk => by rw [List.mem_singleton.1 hk]; simp [FsMem.own], fun k hk => ?_, rfl⟩
    rw [hnew] at hk
    rcases List.mem_append.1 hk with hk | hk
    · exact .inl hk
    · rcases List.mem_cons.1 hk with rfl | hk
      · exact .inr hg
      · exact .inr (hv k (by simpa using hk)).1
end Go.Proofs.YtaolddgnannojaaDoor
