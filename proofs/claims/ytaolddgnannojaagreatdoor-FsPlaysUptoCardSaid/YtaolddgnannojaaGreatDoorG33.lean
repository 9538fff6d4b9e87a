/-
  The reference: one node more; new bytes of a node.
  The package's file system and the reference's, side by side in memory.
  Plain: the reference's nodes stay in order; its bounds, where it stands beside the package's.
-/
import Derived.Test.YtaolddgnannojaaGreatDoorG32
import Derived.Laws.OwnMore
namespace Go.Proofs.YtaolddgnannojaaGreatDoor
open Go.RowKit Go.Maps

theorem all2_app {α β : Type} {Q : α → β → Prop} : ∀ {l : List α} {m : List β} {l' : List α} {m' : List β}, All2 Q l m → All2 Q l' m' → All2 Q (l ++ l') (m ++ m')
  | [], [], _, _, _, k => k
  | _ :: _, _ :: _, _, _, h, k => ⟨h.1, all2_app h.2 k⟩
  | [], _ :: _, _, _, h, _ => h.elim
  | _ :: _, [], _, _, h, _ => h.elim
/-- one node more -/
theorem RAt.setNodes {w w1 w2 : World} {M : RMem} {R : RSt} (h : RAt w M R) (hb : Below w.heap.size w w1) (hg : w1.grownBy w2 M.nv.ownBlock) {v dv : Value} {c : FileC} (hd : DataAt w1 dv c.d)
    (hdn : ∀ b, dv.ownBlock = some b → w.heap.size ≤ b) (ho : w2.ownsRow 0 96 2 v (R.nodes ++ [c]).length (ndCells (M.ds ++ [dv]) (R.nodes ++ [c])))
    (hn : ∀ b, v.ownBlock = some b → M.nv.ownBlock = some b ∨ w1.heap.size ≤ b) :
    RAt (w2.setCell ⟨M.rb, 1, none⟩ v) { M with nv := v, ds := M.ds ++ [dv] } { R with nodes := R.nodes ++ [c] } ∧ RGr M w { M with nv := v, ds := M.ds ++ [dv] } (w2.setCell ⟨M.rb, 1, none⟩ v) := by
  have h1 := h.below hb
  have hlow : ∀ k, k ∈ M.own → k < w.heap.size := h.lt
  have e0 : M.own = [M.rb] ++ (M.nv.ownBlock.toList ++ (M.wv.ownBlock.toList ++ (M.sv.ownBlock.toList ++ (M.pv.ownBlock.toList ++ M.ds.flatMap fun v => v.ownBlock.toList)))) := rfl
  have hnd := h.nodup
  rw [e0] at hnd
  have hmid := nodup_mid hnd
  have hdlt : ∀ b, dv.ownBlock = some b → b < w1.heap.size := fun b hb => by
    obtain ⟨cur, hc⟩ := data_blk hd b hb
    exact lt_of_heap hc
  have hnvm : ∀ b, M.nv.ownBlock = some b → b ∈ M.own := fun b hb => RMem.mem_own.2 (.inr (.inl hb))
  have hfg : Fr M.nv.ownBlock.toList w1 w2 := Fr.of_grown hg
  have hrbn : M.rb ∉ M.nv.ownBlock.toList := fun hh => (hmid _ hh).1 (by simp)
  have hblk : w2.heap[M.rb]? = some (.cells (rCells M R) 54 (0, 0)) := (hfg.block _ (lt_of_heap h1.blk) hrbn).trans h1.blk
  have hf : Fr [M.rb] w2 (w2.setCell ⟨M.rb, 1, none⟩ v) := Fr.setCell _ _ _ _ (by simp)
  have hF : Fr (M.rb :: M.nv.ownBlock.toList) w1 (w2.setCell ⟨M.rb, 1, none⟩ v) := (hfg.more fun k hk => List.mem_cons_of_mem _ hk).trans (hf.more fun k hk => by rw [List.mem_singleton.1 hk]; simp)
  have hrest : ∀ k, (M.wv.ownBlock = some k ∨ M.sv.ownBlock = some k ∨ M.pv.ownBlock = some k ∨ ∃ v ∈ M.ds, v.ownBlock = some k) → k ∉ M.rb :: M.nv.ownBlock.toList := fun k hk hh => by
    have hin : k ∈ M.wv.ownBlock.toList ++ (M.sv.ownBlock.toList ++ (M.pv.ownBlock.toList ++ M.ds.flatMap fun v => v.ownBlock.toList)) := by
      simp only [List.mem_append, Option.mem_toList, List.mem_flatMap]
      exact hk
    rcases List.mem_cons.1 hh with e | e
    · have hall := (List.nodup_cons.1 hnd).1
      rw [← e] at hall
      exact hall (show k ∈ M.nv.ownBlock.toList ++ _ from List.mem_append_right _ hin)
    · exact (hmid k e).2 hin
  have hdno : ∀ b, dv.ownBlock = some b → b ∉ M.own := fun b hb hh => by
    have := hdn b hb
    have := hlow b hh
    omega
  refine ⟨⟨?_, ?_, ?_, row_kept h1.now hF fun b hb => hrest b (.inl hb), row_kept h1.safe hF fun b hb => hrest b (.inr (.inl hb)), row_kept h1.pend hF fun b hb => hrest b (.inr (.inr (.inl hb))), ?_⟩, ?_, ?_, rfl⟩
  · show (w2.setCell ⟨M.rb, 1, none⟩ v).heap[M.rb]? = _
    rw [heap_setCell_at hblk]
    rfl
  · refine row_kept ho hf fun b hb hh => ?_
    rw [List.mem_singleton.1 hh] at hb
    rcases hn _ hb with h5 | h5
    · exact hrbn (by simpa using h5)
    · have := lt_of_heap h1.blk
      omega
  · refine all2_app (all2_mem h1.data fun v _ hv hd => data_kept hd hF fun b hb => hrest b (.inr (.inr (.inr ⟨v, hv, hb⟩)))) ⟨?_, trivial⟩
    · refine data_kept hd hF fun b hb hh => hdno b hb ?_
      rcases List.mem_cons.1 hh with e | e
      · rw [e]; exact RMem.mem_own.2 (.inl rfl)
      · exact hnvm b (by simpa using e)
  · have e1 : RMem.own { M with nv := v, ds := M.ds ++ [dv] } = ([M.rb] ++ (v.ownBlock.toList ++ (M.wv.ownBlock.toList ++ (M.sv.ownBlock.toList ++ (M.pv.ownBlock.toList ++ M.ds.flatMap fun v => v.ownBlock.toList))))) ++ dv.ownBlock.toList := by
      unfold RMem.own
      simp [List.append_assoc]
    rw [e1]
    have hsw : ([M.rb] ++ (v.ownBlock.toList ++ (M.wv.ownBlock.toList ++ (M.sv.ownBlock.toList ++ (M.pv.ownBlock.toList ++ M.ds.flatMap fun v => v.ownBlock.toList))))).Nodup := by
      refine nodup_swap hnd (opt_nodup _) fun y hy => ?_
      rcases hn y (by simpa using hy) with h5 | h5
      · exact hmid y (by simpa using h5)
      · have h6 := hb.size
        refine ⟨fun hh => ?_, fun hh => ?_⟩
        · have := hlow y (by rw [e0]; exact List.mem_append_left _ hh)
          omega
        · have := hlow y (by rw [e0]; exact List.mem_append_right _ (List.mem_append_right _ hh))
          omega
    refine List.nodup_append.2 ⟨hsw, opt_nodup _, fun a ha b hb e => ?_⟩
    subst e
    have hb : dv.ownBlock = some a := by simpa using hb
    rcases List.mem_append.1 ha with h5 | h5
    · exact hdno a hb (by rw [e0]; exact List.mem_append_left _ h5)
    · rcases List.mem_append.1 h5 with h6 | h6
      · rcases hn a (by simpa using h6) with h7 | h7
        · exact hdno a hb (hnvm a h7)
        · have := hdlt a hb
          omega
      · exact hdno a hb (by rw [e0]; exact List.mem_append_right _ (List.mem_append_right _ h6))
  · refine ((Fr.of_below hb _).trans hF).more fun k hk => ?_
    rcases List.mem_cons.1 hk with e | e
    · rw [e]; exact RMem.mem_own.2 (.inl rfl)
    · exact hnvm k (by simpa using e)
  · intro k hk
    rcases RMem.mem_own.1 hk with h5 | h5 | h5 | h5 | h5 | ⟨u, hu, h5⟩
    · exact .inl (RMem.mem_own.2 (.inl h5))
    · rcases hn k h5 with h6 | h6
      · exact .inl (hnvm k h6)
      · exact .inr (Nat.le_trans hb.size h6)
    · exact .inl (RMem.mem_own.2 (.inr (.inr (.inl h5))))
    · exact .inl (RMem.mem_own.2 (.inr (.inr (.inr (.inl h5)))))
    · exact .inl (RMem.mem_own.2 (.inr (.inr (.inr (.inr (.inl h5))))))
    · rcases List.mem_append.1 hu with h6 | h6
      · exact .inl (RMem.mem_own.2 (.inr (.inr (.inr (.inr (.inr ⟨u, h6, h5⟩))))))
      · rw [List.mem_singleton.1 h6] at h5
        exact .inr (hdn k h5)
/-- new bytes of a node -/
theorem RAt.setData {w w1 : World} {M : RMem} {R : RSt} (h : RAt w M R) (hb : Below w.heap.size w w1) {i : Nat} (hi : i < R.nodes.length) {g cn : Nat} (hnv : M.nv = .slice (some ⟨g, 0, none⟩) R.nodes.length cn) {dv : Value} {d : List UInt8} (hd : DataAt w1 dv d)
    (hdn : ∀ b, dv.ownBlock = some b → w.heap.size ≤ b) :
    RAt (w1.setCell ⟨g, i * 2, none⟩ dv) { M with ds := M.ds.set i dv } (R.node i ⟨d, (R.nodes.getD i noNd).sy⟩) ∧ RGr M w { M with ds := M.ds.set i dv } (w1.setCell ⟨g, i * 2, none⟩ dv) := by
  have hN : R.nodes[i]? = some (R.nodes.getD i noNd) := by rw [List.getD_eq_getElem?_getD, List.getElem?_eq_getElem hi]; rfl
  have hlow : ∀ k, k ∈ M.own → k < w.heap.size := h.lt
  have k1 := h.below hb
  obtain ⟨v, hv, hdv⟩ := k1.data.at_ hN
  have hown := k1.nodes
  rw [hnv] at hown
  obtain ⟨h1, h2⟩ := hown.stored (i * 2) dv
  have hf : Fr [g] w1 (w1.setCell ⟨g, i * 2, none⟩ dv) := Fr.setCell _ _ _ _ (by simp)
  have hgo : M.nv.ownBlock = some g := by rw [hnv]; rfl
  have hgm : g ∈ M.own := RMem.mem_own.2 (.inr (.inl hgo))
  have e0 : M.own = [M.rb] ++ (M.nv.ownBlock.toList ++ (M.wv.ownBlock.toList ++ (M.sv.ownBlock.toList ++ (M.pv.ownBlock.toList ++ M.ds.flatMap fun v => v.ownBlock.toList)))) := rfl
  have hnd := h.nodup
  rw [e0] at hnd
  obtain ⟨hA, hC⟩ := nodup_mid hnd g (by rw [hgo]; simp)
  have ho : ∀ k, (k = M.rb ∨ M.wv.ownBlock = some k ∨ M.sv.ownBlock = some k ∨ M.pv.ownBlock = some k ∨ ∃ v ∈ M.ds, v.ownBlock = some k) → k ∉ [g] := fun k hk hh => by
    rw [List.mem_singleton.1 hh] at hk
    rcases hk with e | e
    · exact hA (by simp [e])
    · refine hC ?_
      simp only [List.mem_append, Option.mem_toList, List.mem_flatMap]
      exact e
  have hdno : ∀ b, dv.ownBlock = some b → b ∉ M.own := fun b hb hh => by
    have := hdn b hb
    have := hlow b hh
    omega
  refine ⟨⟨(hf.block _ (lt_of_heap k1.blk) (ho _ (.inl rfl))).trans k1.blk, ?_, ?_, row_kept k1.now hf fun b hb => ho b (.inr (.inl hb)), row_kept k1.safe hf fun b hb => ho b (.inr (.inr (.inl hb))), row_kept k1.pend hf fun b hb => ho b (.inr (.inr (.inr (.inl hb)))), ?_⟩,
    ((Fr.of_below hb _).trans hf).more fun k hk => by rw [List.mem_singleton.1 hk]; exact hgm, ?_, rfl⟩
  · show (w1.setCell _ _).ownsRow 0 96 2 M.nv (R.nodes.set i _).length (ndCells (M.ds.set i dv) (R.nodes.set i ⟨d, (R.nodes.getD i noNd).sy⟩))
    rw [List.length_set, hnv]
    have hz : (List.zipWith ndCell M.ds R.nodes)[i]? = some (ndCell v (R.nodes.getD i noNd)) := by rw [List.getElem?_zipWith, hv, hN]
    have hdl : i < M.ds.length := (List.getElem?_eq_some_iff.1 hv).1
    have e : (ndCells M.ds R.nodes).set (i * 2) dv = ndCells (M.ds.set i dv) (R.nodes.set i ⟨d, (R.nodes.getD i noNd).sy⟩) := by
      unfold ndCells
      rw [show i * 2 = i * 2 + 0 by omega, flat_set nd_len hz (by omega)]
      congr 1
      apply List.ext_getElem?
      intro j
      by_cases hj : i = j
      · subst hj
        rw [List.getElem?_set_self (List.getElem?_eq_some_iff.1 hz).1, List.getElem?_zipWith, List.getElem?_set_self hdl, List.getElem?_set_self hi]
        rfl
      · rw [List.getElem?_set_ne hj, List.getElem?_zipWith, List.getElem?_zipWith, List.getElem?_set_ne hj, List.getElem?_set_ne hj]
    rw [← e]
    exact h1
  · have h5 : All2 (fun v c => DataAt w1 v (FileC.d c)) (M.ds.set i dv) (R.nodes.set i ⟨d, (R.nodes.getD i noNd).sy⟩) := all2_set k1.data hd
    refine all2_mem h5 fun v _ hv hd => data_kept hd hf fun b hb => ?_
    rcases List.mem_or_eq_of_mem_set hv with h6 | h6
    · exact ho b (.inr (.inr (.inr (.inr ⟨v, h6, hb⟩))))
    · rw [h6] at hb
      intro hh
      rw [List.mem_singleton.1 hh] at hb
      exact hdno g hb hgm
  · have hdl : i < M.ds.length := (List.getElem?_eq_some_iff.1 hv).1
    have e1 : M.ds = M.ds.take i ++ ([v] ++ M.ds.drop (i + 1)) := by
      have : M.ds[i] = v := by
        have := List.getElem?_eq_getElem hdl
        rw [hv] at this
        exact (Option.some.inj this).symm
      rw [← this, List.singleton_append, List.getElem_cons_drop, List.take_append_drop]
    have e2 : M.ds.set i dv = M.ds.take i ++ ([dv] ++ M.ds.drop (i + 1)) := by
      rw [List.set_eq_take_append_cons_drop, if_pos hdl]
      rfl
    have e3 : M.own = (M.rb :: (M.nv.ownBlock.toList ++ (M.wv.ownBlock.toList ++ (M.sv.ownBlock.toList ++ (M.pv.ownBlock.toList ++ (M.ds.take i).flatMap fun v => v.ownBlock.toList))))) ++ (v.ownBlock.toList ++ (M.ds.drop (i + 1)).flatMap fun v => v.ownBlock.toList) := by
      unfold RMem.own
      conv => lhs; rw [e1]
      simp [List.append_assoc, List.flatMap_append]
    have e4 : RMem.own { M with ds := M.ds.set i dv } = (M.rb :: (M.nv.ownBlock.toList ++ (M.wv.ownBlock.toList ++ (M.sv.ownBlock.toList ++ (M.pv.ownBlock.toList ++ (M.ds.take i).flatMap fun v => v.ownBlock.toList))))) ++ (dv.ownBlock.toList ++ (M.ds.drop (i + 1)).flatMap fun v => v.ownBlock.toList) := by
      unfold RMem.own
      simp only
      rw [e2]
      simp [List.append_assoc, List.flatMap_append]
    have hnd2 := h.nodup
    rw [e3] at hnd2
    rw [e4]
    refine nodup_swap hnd2 (opt_nodup _) fun y hy => ⟨fun hh => hdno y (by simpa using hy) ?_, fun hh => hdno y (by simpa using hy) ?_⟩
    · rw [e3]; exact List.mem_append_left _ hh
    · rw [e3]; exact List.mem_append_right _ (List.mem_append_right _ hh)
  · intro k hk
    rcases RMem.mem_own.1 hk with h5 | h5 | h5 | h5 | h5 | ⟨u, hu, h5⟩
    · exact .inl (RMem.mem_own.2 (.inl h5))
    · exact .inl (RMem.mem_own.2 (.inr (.inl h5)))
    · exact .inl (RMem.mem_own.2 (.inr (.inr (.inl h5))))
    · exact .inl (RMem.mem_own.2 (.inr (.inr (.inr (.inl h5)))))
    · exact .inl (RMem.mem_own.2 (.inr (.inr (.inr (.inr (.inl h5))))))
    · rcases List.mem_or_eq_of_mem_set hu with h6 | h6
      · exact .inl (RMem.mem_own.2 (.inr (.inr (.inr (.inr (.inr ⟨u, h6, h5⟩))))))
      · rw [h6] at h5
        exact .inr (hdn k h5)
end Go.Proofs.YtaolddgnannojaaGreatDoor
namespace Go.Proofs.YtaolddgnannojaaGreatDoor
open Go.RowKit Go.Maps

/-- a block that is none of the boxes that changes have captured -/
def NoBox (w : World) (k : Nat) : Prop := ∀ cs t, w.heap[k]? = some (.cells cs t (0, 0)) → t ≠ 9 ∧ t ≠ 3
structure FrB (S : List Nat) (w w' : World) : Prop where
  fr : Fr S w w'
  may : ∀ k, k ∈ S → k < w.heap.size → NoBox w k
theorem box_keptB {w w' : World} {S : List Nat} (h : FrB S w w') {a : Nat} {cs : Array Value} {t : TypeId} (ha : w.heap[a]? = some (.cells cs t (0, 0))) (ht : t = 9 ∨ t = 3) : w'.heap[a]? = some (.cells cs t (0, 0)) := by
  refine (h.fr.block a (lt_of_heap ha) fun hh => ?_).trans ha
  have := h.may a hh (lt_of_heap ha) cs t ha
  rcases ht with e | e
  · exact this.1 e
  · exact this.2 e
theorem ChgAt.keptB {w w' : World} {S : List Nat} {c : Chg} {v : Value} (h : ChgAt w c v) (hf : FrB S w w') : ChgAt w' c v := by
  cases c with
  | put n k =>
    obtain ⟨z1, z2, a, b, rfl, h1, h2⟩ := h
    exact ⟨z1, z2, a, b, rfl, box_keptB hf h1 (.inl rfl), box_keptB hf h2 (.inr rfl)⟩
  | move n n' k =>
    obtain ⟨z1, z2, z3, a, b, d, rfl, h1, h2, h3⟩ := h
    exact ⟨z1, z2, z3, a, b, d, rfl, box_keptB hf h1 (.inl rfl), box_keptB hf h2 (.inl rfl), box_keptB hf h3 (.inr rfl)⟩
  | del n =>
    obtain ⟨z1, a, rfl, h1⟩ := h
    exact ⟨z1, a, rfl, box_keptB hf h1 (.inl rfl)⟩
theorem CPend.keptB {w w' : World} {S : List Nat} {c : List Value} {p : Pend} (h : CPend w c p) (hf : FrB S w w') : CPend w' c p := by
  obtain ⟨v, h1, h2⟩ := h
  exact ⟨v, h1, h2.keptB hf⟩
theorem FsAt.apartB {w w' : World} {M : FsMem} {S : FsSt} {F : List Nat} (h : FsAt w M S) (hf : FrB F w w') (ho : ∀ k, k ∈ M.own → k ∉ F) : FsAt w' M S := by
  obtain ⟨cs, h1, h2⟩ := h.pend
  refine ⟨(hf.fr.block _ (lt_of_heap h.blk) (ho _ (by simp [FsMem.own]))).trans h.blk, map_kept h.names hf.fr (ho _ (by simp [FsMem.own])), map_kept h.dur hf.fr (ho _ (by simp [FsMem.own])), h.natN, h.natD, map_kept h.files hf.fr (ho _ (by simp [FsMem.own])),
    all2_kept h.each fun e f hm hfa => hfa.kept hf.fr (ho _ (M.fl_own hm).1) fun b hb => ho _ ((M.fl_own hm).2 b hb), ⟨cs, h1.mono fun _ _ h => h.keptB hf, row_kept h2 hf.fr fun b hb => ho _ (by simp [FsMem.own, hb])⟩, h.nodup⟩
/-- what the reference holds is no box -/
theorem RAt.noBox {w : World} {M : RMem} {R : RSt} (h : RAt w M R) : ∀ k, k ∈ M.own → NoBox w k := by
  have one : ∀ {k : Nat} {u : TypeId}, (∃ cur, w.heap[k]? = some (.cells cur u (0, 0))) → u ≠ 9 → u ≠ 3 → NoBox w k := fun ⟨cur, hc⟩ h1 h2 cs t ht => by
    rw [hc] at ht
    simp only [Option.some.injEq, Obj.cells.injEq] at ht
    obtain ⟨_, rfl, _⟩ := ht
    exact ⟨h1, h2⟩
  intro k hk
  rcases RMem.mem_own.1 hk with rfl | h1 | h1 | h1 | h1 | ⟨v, hv, h1⟩
  · exact one ⟨_, h.blk⟩ (by decide) (by decide)
  · exact one (own_blk h.nodes k h1).2 (by decide) (by decide)
  · exact one (own_blk h.now k h1).2 (by decide) (by decide)
  · exact one (own_blk h.safe k h1).2 (by decide) (by decide)
  · exact one (own_blk h.pend k h1).2 (by decide) (by decide)
  · have : ∀ {l : List Value} {m : List FileC}, All2 (fun v c => DataAt w v (FileC.d c)) l m → v ∈ l → NoBox w k := by
      intro l
      induction l with
      | nil => intro m _ hv; cases hv
      | cons a l ih =>
        intro m hq hv
        cases m with
        | nil => exact hq.elim
        | cons b m =>
          rcases List.mem_cons.1 hv with e | e
          · rw [← e] at hq
            exact one (data_blk hq.1 k h1) (by decide) (by decide)
          · exact ih hq.2 e
    exact this h.data hv
theorem MaxL.fr {w w' : World} {F : List Nat} (h : MaxL w) (hf : Fr F w w') (hn : 0 ∉ F) : MaxL w' := by
  obtain ⟨m, hm⟩ := h
  exact ⟨m, (World.cell?_of_block (w := w) (w' := w') (a := ⟨0, 0, none⟩) (hf.block _ (World.block_lt_of_cell? w _ hm) hn)).trans hm⟩
/-- both, all above a world, apart -/
structure Side (K : Nat) (w0 w : World) (M : FsMem) (S : FsSt) (MR : RMem) (R : RSt) : Prop where
  f : Held K w0 w M S
  r : RAt w MR R
  own : ∀ k, k ∈ MR.own → w0.heap.size ≤ k
  apart : ∀ k, k ∈ M.own → k ∉ MR.own
  ml : MaxL w0
theorem Side.low {K : Nat} {w0 w w' : World} {M : FsMem} {S : FsSt} {MR : RMem} {R : RSt} (h : Side K w0 w M S MR R) (hb : Below w.heap.size w w') : Side K w0 w' M S MR R :=
  ⟨h.f.low hb, h.r.below hb, h.own, h.apart, h.ml⟩
/-- the package's has turned -/
theorem Side.left {K K' : Nat} {w0 w w' : World} {M M' : FsMem} {S S' : FsSt} {MR : RMem} {R : RSt} (h : Side K w0 w M S MR R) (hh : Held K' w0 w' M' S') (hg : Gr M w M' w') : Side K' w0 w' M' S' MR R := by
  refine ⟨hh, h.r.apart hg.fr fun k hk hm => h.apart k hm hk, h.own, fun k hk hr => ?_, h.ml⟩
  rcases hg.new k hk with h1 | h1
  · exact h.apart k h1 hr
  · have := h.r.lt k hr
    omega
theorem Held.apartB {K : Nat} {w0 w w' : World} {M : FsMem} {S : FsSt} {F : List Nat} (h : Held K w0 w M S) (hm : MaxL w0) (hf : FrB F w w') (ho : ∀ k, k ∈ M.own → k ∉ F) (hF : ∀ k, k ∈ F → w0.heap.size ≤ k) : Held K w0 w' M S := by
  have hg : 0 ∉ F := fun hh => by
    have := hF _ hh
    have := hm.lt
    omega
  refine ⟨⟨h.up.at_.apartB hf ho, h.up.good, h.up.ml.fr hf.fr hg, h.up.mg⟩, ?_, h.own⟩
  refine ⟨hf.fr.os.trans h.below.os, hf.fr.tape.trans h.below.tape, hf.fr.output.trans h.below.output, Nat.le_trans h.below.size hf.fr.size, fun k hk => ?_⟩
  refine (hf.fr.block k (Nat.lt_of_lt_of_le hk h.below.size) fun hh => ?_).trans (h.below.block k hk)
  have := hF k hh
  omega
/-- the reference's has turned -/
theorem Side.right {K : Nat} {w0 w w' : World} {M : FsMem} {S : FsSt} {MR MR' : RMem} {R R' : RSt} (h : Side K w0 w M S MR R) (hr : RAt w' MR' R') (hg : RGr MR w MR' w') : Side K w0 w' M S MR' R' := by
  refine ⟨h.f.apartB h.ml ⟨hg.fr, fun k hk _ => h.r.noBox k hk⟩ h.apart h.own, hr, fun k hk => ?_, fun k hk hr => ?_, h.ml⟩
  · rcases hg.new k hk with h1 | h1
    · exact h.own k h1
    · have := h.f.below.size
      omega
  · rcases hg.new k hr with h1 | h1
    · exact h.apart k hk h1
    · have := h.f.up.at_.lt k hk
      omega
/-- another block has turned -/
theorem Side.poke {K : Nat} {w0 w w' : World} {M : FsMem} {S : FsSt} {MR : RMem} {R : RSt} (h : Side K w0 w M S MR R) {g : Nat} (hf : Fr [g] w w') (hb : NoBox w g) (h1 : g ∉ M.own) (h2 : g ∉ MR.own) (h3 : w0.heap.size ≤ g) : Side K w0 w' M S MR R :=
  ⟨h.f.apartB h.ml ⟨hf, fun k hk _ => by rw [List.mem_singleton.1 hk]; exact hb⟩ (fun k hk hh => h1 (by rw [← List.mem_singleton.1 hh]; exact hk)) (fun k hk => by rw [List.mem_singleton.1 hk]; exact h3), h.r.apart hf fun k hk hh => h2 (by rw [← List.mem_singleton.1 hh]; exact hk), h.own, h.apart, h.ml⟩
end Go.Proofs.YtaolddgnannojaaGreatDoor
namespace Go.Proofs.YtaolddgnannojaaGreatDoor
open Go.RowKit Go.Maps

structure RInv (K : Nat) (R : RSt) : Prop where
  node : ∀ c ∈ R.nodes, c.sy ≤ c.d.length ∧ c.d.length ≤ K
theorem RInv.mono {K K' : Nat} {R : RSt} (h : RInv K R) (hK : K ≤ K') : RInv K' R := ⟨fun c hc => ⟨(h.node c hc).1, Nat.le_trans (h.node c hc).2 hK⟩⟩
theorem RInv.same {K : Nat} {R R' : RSt} (h : RInv K R) (e : R'.nodes = R.nodes) : RInv K R' := ⟨fun c hc => h.node c (by rw [← e]; exact hc)⟩
theorem RInv.at_ {K : Nat} {R : RSt} (h : RInv K R) (i : Nat) : (R.nodes.getD i noNd).sy ≤ (R.nodes.getD i noNd).d.length ∧ (R.nodes.getD i noNd).d.length ≤ K := by
  by_cases hi : i < R.nodes.length
  · refine h.node _ ?_
    rw [List.getD_eq_getElem?_getD, List.getElem?_eq_getElem hi]
    exact List.getElem_mem hi
  · rw [List.getD_eq_getElem?_getD, List.getElem?_eq_none (by omega)]
    exact ⟨Nat.le_refl _, Nat.zero_le _⟩
theorem RInv.set {K K' : Nat} {R : RSt} (h : RInv K R) (hK : K ≤ K') (i : Nat) {c : FileC} (hc : c.sy ≤ c.d.length ∧ c.d.length ≤ K') : RInv K' (R.node i c) := ⟨fun x hx => by
  rcases List.mem_or_eq_of_mem_set hx with h1 | h1
  · exact (h.mono hK).node x h1
  · rw [h1]; exact hc⟩
theorem rinv_new (q : Int) : RInv 0 (newR q) := ⟨fun c hc => by cases hc⟩
theorem rinv_write {K : Nat} {R : RSt} (h : RInv K R) (s : ByteArray) (b : List UInt8) : RInv (K + b.length) (R.write s b).2 := by
  have h0 := h.mono (K' := K + b.length) (by omega)
  unfold RSt.write
  repeat' split
  all_goals first
  | exact h0
  | exact h0.same rfl
  | skip
  refine ⟨fun c hc => ?_⟩
  have hc : c ∈ R.nodes ++ [⟨b, 0⟩] := hc
  rcases List.mem_append.1 hc with h1 | h1
  · exact h0.node c h1
  · rw [List.mem_singleton.1 h1]
    exact ⟨Nat.zero_le _, by show b.length ≤ _; omega⟩
theorem rinv_append {K : Nat} {R : RSt} (h : RInv K R) (s : ByteArray) (b : List UInt8) : RInv (K + b.length) (R.append s b).2 := by
  have h0 := h.mono (K' := K + b.length) (by omega)
  unfold RSt.append
  repeat' split
  all_goals first
  | exact h0
  | exact h0.same rfl
  | skip
  rename_i i _ _ _
  refine RInv.set (R := R.did) (h.same rfl) (by omega) _ ?_
  have := h.at_ i
  simp only [List.length_append]
  omega
theorem rinv_sync {K : Nat} {R : RSt} (h : RInv K R) (s : ByteArray) : RInv K (R.sync s).2 := by
  unfold RSt.sync
  repeat' split
  all_goals first
  | exact h
  | exact h.same rfl
  | skip
  rename_i i _ _
  refine RInv.set (R := R.did) (h.same rfl) (Nat.le_refl _) _ ?_
  have := h.at_ i
  simp only
  omega
theorem rinv_rename {K : Nat} {R : RSt} (h : RInv K R) (a b : ByteArray) : RInv K (R.rename a b).2 := by
  unfold RSt.rename
  repeat' split
  all_goals first
  | exact h
  | exact h.same rfl
  | (refine h.same ?_; simp only; split <;> rfl)
theorem rinv_remove {K : Nat} {R : RSt} (h : RInv K R) (a : ByteArray) : RInv K (R.remove a).2 := by
  unfold RSt.remove
  repeat' split
  all_goals first
  | exact h
  | exact h.same rfl
theorem rinv_syncdir {K : Nat} {R : RSt} (h : RInv K R) (a : ByteArray) : RInv K (R.syncdir a).2 := by
  unfold RSt.syncdir
  repeat' split
  all_goals first
  | exact h
  | exact h.same rfl
theorem rinv_crash {K : Nat} {R : RSt} (h : RInv K R) (n m : Int) : RInv K (R.crash n m) := ⟨fun c hc => by
  have hc : c ∈ R.nodes.map (cutF (max m 0).toNat) := hc
  obtain ⟨d, hd, rfl⟩ := List.mem_map.1 hc
  have := h.node d hd
  unfold cutF
  simp only [List.length_take]
  omega⟩
/-! ### the bounds of the reference, beside the package's -/
theorem Sim.lim {K : Nat} {S : FsSt} {R : RSt} (h : Sim S R) (hg : FsGood K S) (hK : K ≤ 1048576) : RLim R where
  now := by rw [h.now.len hg.dn]; have := h.okN.few; omega
  safe := by
    rw [h.safe.len hg.dd]
    have := (h.ok 0).few
    simp only [List.take_zero] at this
    have e : durOf S.dur [] = S.dur := rfl
    rw [e] at this
    omega
  pend := by rw [h.pend, List.length_map]; have := hg.inv.pends; omega
  nodes := by rw [h.last]; have := hg.inv.last; omega
  done := by rw [h.done]; have := hg.inv.steps; omega
  armed := by rw [h.armed]; exact hg.inv.armed
  named := fun p hp e => by
    have h1 := (h.now.mem p.1 p.2).1 hp
    have h2 := h.okN.ne
    have h3 : ∀ x : ByteArray, x.size = 0 → x = ⟨#[]⟩ := fun x hx => by
      obtain ⟨d⟩ := x
      have : d.size = 0 := hx
      rw [Array.eq_empty_of_size_eq_zero this]
    have h3 := h3 _ e
    rw [h3] at h1
    omega
theorem Sim.pends {S : FsSt} {R : RSt} (h : Sim S R) : ∀ c ∈ R.pend, c.off.size ≠ 0 ∨ c.on.size ≠ 0 := fun c hc => by
  rw [h.pend] at hc
  obtain ⟨p, hp, rfl⟩ := List.mem_map.1 hc
  have hn := h.named p hp
  unfold rch
  unfold Chg.named at hn
  split at hn
  · exact .inr hn.1
  · exact .inl hn.1
  · exact .inl hn
theorem Sim.durs {K : Nat} {S : FsSt} {R : RSt} (h : Sim S R) (hg : FsGood K S) (j : Nat) : ((R.pend.take j).foldl does R.safe).length ≤ 1048576 := by
  have hr : Rows (durOf S.dur (S.pend.take j)) ((R.pend.take j).foldl does R.safe) := by
    rw [h.pend, ← List.map_take]
    exact rows_durs hg.inv (S.pend.take j) hg.fd (fun p hp => hg.inv.pend p (List.mem_of_mem_take hp)) (fun p hp => h.named p (List.mem_of_mem_take hp)) h.safe
  rw [hr.len (hg.durs j).1.dir]
  have := (h.ok j).few
  omega
theorem Sim.safeIn {K : Nat} {S : FsSt} {R : RSt} (h : Sim S R) (hg : FsGood K S) : ∀ p ∈ R.safe, p.2 < R.nodes.length := fun p hp => by
  obtain ⟨_, c, h2, _⟩ := row_node h h.safe hg.inv.dur hp
  have h3 := h.node _ _ h2
  rw [Nat.add_sub_cancel] at h3
  exact (List.getElem?_eq_some_iff.1 h3).1
theorem Sim.sizeLe {K : Nat} {S : FsSt} {R : RSt} (h : Sim S R) (hg : FsGood K S) (hK : K ≤ 1048576) : R.size ≤ 1099511627776 := by
  have h1 := (hg.inv.size' hK).2
  have h2 := h.size
  omega
theorem infoInode : (Tryz.prog.info? 96).map (fun i => (i.zero, i.size, i.bytes)) = some (some (.agg #[.slice none 0 0, .int .i64 0]), 2, 32) := by kernel_rfl
theorem old_none {R : RSt} {s : ByteArray} (h : rat R.now s = none) : R.old s = (0, 1) := by unfold RSt.old; rw [h]
theorem old_some {R : RSt} {s : ByteArray} {i : Nat} (h : rat R.now s = some i) : R.old s = (R.len i, 0) := by unfold RSt.old; rw [h]
theorem data_row {w : World} {base : Nat} {v : Value} {d : List UInt8} (h : w.ownsRow base 5 1 v d.length (u8s d)) : DataAt w v d := by
  rcases h.2 with ⟨rfl, h0⟩ | ⟨g, cap, cur, rfl, _, hg, h1, h2, h3, h4⟩
  · exact .inl ⟨rfl, List.eq_nil_of_length_eq_zero h0⟩
  · exact .inr ⟨g, cap, cur, rfl, hg, h1, h2, by omega, by simpa using h4⟩
theorem zip_snoc {ds : List Value} {N : List FileC} (h : ds.length = N.length) (v : Value) (c : FileC) : ndCells (ds ++ [v]) (N ++ [c]) = ndCells ds N ++ ndCell v c := by
  unfold ndCells
  rw [List.zipWith_append h]
  simp
theorem one_nd {A : Option Addr} {n c : Nat} {k : Int} : ∀ v ∈ [Value.slice A n c, .int .i64 k], v.oneCell' = true := by
  intro v hv
  simp only [List.mem_cons, List.not_mem_nil, or_false] at hv
  rcases hv with rfl | rfl <;> rfl
end Go.Proofs.YtaolddgnannojaaGreatDoor
