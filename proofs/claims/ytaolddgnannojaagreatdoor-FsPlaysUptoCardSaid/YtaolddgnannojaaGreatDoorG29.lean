/-
  The reference: fails (does this write fail?), New.
  The reference: a change of names (change).
-/
import Derived.Test.YtaolddgnannojaaGreatDoorG28
namespace Go.Proofs.YtaolddgnannojaaGreatDoor
open Go.RowKit Go.Maps

attribute [local go_sem] lt1 lt2 lt3 lt4 lt5 lt6

theorem RAt.put {w : World} {M : RMem} {R R' : RSt} (h : RAt w M R) (i : Nat) (u : Value) (hc : (rCells M R).setIfInBounds i u = rCells M R')
    (h1 : R'.nodes = R.nodes) (h2 : R'.now = R.now) (h3 : R'.safe = R.safe) (h4 : R'.pend = R.pend) : RAt (w.setCell ⟨M.rb, i, none⟩ u) M R' ∧ RGr M w M (w.setCell ⟨M.rb, i, none⟩ u) := by
  have hf : Fr [M.rb] w (w.setCell ⟨M.rb, i, none⟩ u) := Fr.setCell _ _ _ _ (by simp)
  refine h.field hf ?_ h1 h2 h3 h4
  rw [heap_setCell_at h.blk, hc]
/-- an answer, and what has become of it -/
def RPost (w : World) (M : RMem) (R : RSt) (v : Value) (e : Ending) (w' : World) : Prop := e = .returned v ∧ ∃ M', RAt w' M' R ∧ RGr M w M' w'
set_option maxHeartbeats 4000000 in
set_option maxRecDepth 100000 in
theorem fails_any (w : World) (M : RMem) (R : RSt) (h : RAt w M R) (h0 : R.out = false) (ha : R.armed ≤ 9223372036854775807) (hd : R.done ≤ 1099511627776) :
    Calls Tryz.prog 72 #[.pointer (some ⟨M.rb, 0, none⟩)] w (RPost w M (if R.armed = 1 then R.downed else R.did) (.bool (decide (R.armed = 1)))) := by
  have c6 : w.cell? ⟨M.rb, 6, none⟩ = some (.int .i64 (R.armed : Nat)) := h.cell 6 _ rfl
  have f6 : w.frozen? ⟨M.rb, 6, none⟩ = false := (blk_cells h.blk).2.1 6
  by_cases h1 : R.armed = 1
  · rw [if_pos h1, decide_eq_true h1]
    obtain ⟨h2, g2⟩ := h.put (R' := { R with armed := 0 }) 6 (.int .i64 0) rfl rfl rfl rfl rfl
    have d6 : (w.setCell ⟨M.rb, 6, none⟩ (.int .i64 0)).cell? ⟨M.rb, 6, none⟩ = some (.int .i64 0) := h2.cell 6 _ rfl
    have d7 : (w.setCell ⟨M.rb, 6, none⟩ (.int .i64 0)).cell? ⟨M.rb, 7, none⟩ = some (.bool R.out) := h2.cell 7 _ rfl
    have e7 : (w.setCell ⟨M.rb, 6, none⟩ (.int .i64 0)).frozen? ⟨M.rb, 7, none⟩ = false := (blk_cells h2.blk).2.1 7
    obtain ⟨h3, g3⟩ := h2.put (R' := R.downed) 7 (.bool true) rfl rfl rfl rfl rfl
    have d8 : ((w.setCell ⟨M.rb, 6, none⟩ (.int .i64 0)).setCell ⟨M.rb, 7, none⟩ (.bool true)).cell? ⟨M.rb, 7, none⟩ = some (.bool true) := h3.cell 7 _ rfl
    have Hfin : Hid (RPost w M R.downed (.bool true) (.returned (.bool true)) ((w.setCell ⟨M.rb, 6, none⟩ (.int .i64 0)).setCell ⟨M.rb, 7, none⟩ (.bool true))) := Lib.hid ⟨rfl, M, h3, g2.trans g3⟩
    have hI : (0 : Int) < R.armed := by omega
    have hZ : (R.armed : Int) - 1 = 0 := by omega
    clear h h2 g2 h3 g3
    go_enter Tryz.func72, Tryz.ntmps72
    go_wp2_with fail
    go_ret
    exact Hfin.out
  · rw [if_neg h1, decide_eq_false h1]
    by_cases hz : R.armed = 0
    · have c5 : w.cell? ⟨M.rb, 5, none⟩ = some (.int .i64 (R.done : Nat)) := h.cell 5 _ rfl
      have f5 : w.frozen? ⟨M.rb, 5, none⟩ = false := (blk_cells h.blk).2.1 5
      obtain ⟨h2, g2⟩ := h.put (R' := R.did) 5 (.int .i64 ((R.done : Int) + 1)) (by
        unfold rCells RSt.did
        simp only [hz]
        rfl) rfl rfl rfl rfl
      have Hfin : Hid (RPost w M R.did (.bool false) (.returned (.bool false)) (w.setCell ⟨M.rb, 5, none⟩ (.int .i64 ((R.done : Int) + 1)))) := Lib.hid ⟨rfl, M, h2, g2⟩
      have hI : ¬ (0 : Int) < R.armed := by omega
      clear h h2 g2 hz h1
      go_enter Tryz.func72, Tryz.ntmps72
      go_wp2_with fail
      go_ret
      exact Hfin.out
    · obtain ⟨h2, g2⟩ := h.put (R' := { R with armed := R.armed - 1 }) 6 (.int .i64 ((R.armed : Int) - 1)) (by
        have e : ((R.armed - 1 : Nat) : Int) = (R.armed : Int) - 1 := by omega
        unfold rCells
        simp only [e]
        rfl) rfl rfl rfl rfl
      have d6 : (w.setCell ⟨M.rb, 6, none⟩ (.int .i64 ((R.armed : Int) - 1))).cell? ⟨M.rb, 6, none⟩ = some (.int .i64 ((R.armed : Int) - 1)) := by
        have := h2.cell 6 (.int .i64 ((R.armed - 1 : Nat) : Int)) rfl
        rwa [show ((R.armed - 1 : Nat) : Int) = (R.armed : Int) - 1 by omega] at this
      have d7 : (w.setCell ⟨M.rb, 6, none⟩ (.int .i64 ((R.armed : Int) - 1))).cell? ⟨M.rb, 7, none⟩ = some (.bool R.out) := h2.cell 7 _ rfl
      have e7 : (w.setCell ⟨M.rb, 6, none⟩ (.int .i64 ((R.armed : Int) - 1))).frozen? ⟨M.rb, 7, none⟩ = false := (blk_cells h2.blk).2.1 7
      obtain ⟨h3, g3⟩ := h2.put (R' := { R with armed := R.armed - 1 }) 7 (.bool false) (by unfold rCells; simp only [h0]; rfl) rfl rfl rfl rfl
      have d8 : ((w.setCell ⟨M.rb, 6, none⟩ (.int .i64 ((R.armed : Int) - 1))).setCell ⟨M.rb, 7, none⟩ (.bool false)).cell? ⟨M.rb, 7, none⟩ = some (.bool false) := by
        have := h3.cell 7 (.bool R.out) rfl
        rwa [h0] at this
      have d5 : ((w.setCell ⟨M.rb, 6, none⟩ (.int .i64 ((R.armed : Int) - 1))).setCell ⟨M.rb, 7, none⟩ (.bool false)).cell? ⟨M.rb, 5, none⟩ = some (.int .i64 (R.done : Nat)) := h3.cell 5 _ rfl
      have e5 : ((w.setCell ⟨M.rb, 6, none⟩ (.int .i64 ((R.armed : Int) - 1))).setCell ⟨M.rb, 7, none⟩ (.bool false)).frozen? ⟨M.rb, 5, none⟩ = false := (blk_cells h3.blk).2.1 5
      obtain ⟨h4, g4⟩ := h3.put (R' := R.did) 5 (.int .i64 ((R.done : Int) + 1)) rfl rfl rfl rfl rfl
      have Hfin : Hid (RPost w M R.did (.bool false) (.returned (.bool false)) (((w.setCell ⟨M.rb, 6, none⟩ (.int .i64 ((R.armed : Int) - 1))).setCell ⟨M.rb, 7, none⟩ (.bool false)).setCell ⟨M.rb, 5, none⟩ (.int .i64 ((R.done : Int) + 1)))) := Lib.hid ⟨rfl, M, h4, (g2.trans g3).trans g4⟩
      have hI : (0 : Int) < R.armed := by omega
      have hZ : ¬ (R.armed : Int) - 1 = 0 := by omega
      clear h h2 g2 h3 g3 h4 g4 h1 hz
      go_enter Tryz.func72, Tryz.ntmps72
      go_wp2_with fail
      go_ret
      exact Hfin.out
end Go.Proofs.YtaolddgnannojaaGreatDoor
namespace Go.Proofs.YtaolddgnannojaaGreatDoor
open Go.RowKit Go.Maps

attribute [local go_sem] lt1 lt2 lt3 lt4 lt5 lt6

theorem nodup_swap {A X C Y : List Nat} (h : (A ++ (X ++ C)).Nodup) (hY : Y.Nodup) (hf : ∀ y ∈ Y, y ∉ A ∧ y ∉ C) : (A ++ (Y ++ C)).Nodup := by
  obtain ⟨h1, h2, h3⟩ := List.nodup_append.1 h
  obtain ⟨_, h5, _⟩ := List.nodup_append.1 h2
  refine List.nodup_append.2 ⟨h1, List.nodup_append.2 ⟨hY, h5, fun a ha b hb e => (hf a ha).2 (e ▸ hb)⟩, fun a ha b hb e => ?_⟩
  rcases List.mem_append.1 hb with h6 | h6
  · exact (hf b h6).1 (e ▸ ha)
  · exact h3 a ha b (List.mem_append_right _ h6) e
theorem opt_nodup (o : Option Nat) : o.toList.Nodup := by cases o <;> simp
/-- the names are a new row -/
theorem RAt.setNow {w w1 : World} {M : RMem} {R : RSt} (h : RAt w M R) (hb : Below w.heap.size w w1) {v : Value} {L : List NRow} (ho : NOwn w1 w.heap.size v L) :
    RAt (w1.setCell ⟨M.rb, 2, none⟩ v) { M with wv := v } { R with now := L } ∧ RGr M w { M with wv := v } (w1.setCell ⟨M.rb, 2, none⟩ v) := by
  have h1 := h.below hb
  have hnew : ∀ b, v.ownBlock = some b → w.heap.size ≤ b := fun b hb => (own_blk ho b hb).1
  have hf : Fr [M.rb] w1 (w1.setCell ⟨M.rb, 2, none⟩ v) := Fr.setCell _ _ _ _ (by simp)
  have hrb : M.rb < w.heap.size := lt_of_heap h.blk
  have hne : ∀ k, k ∈ M.own → k ≠ M.rb → k ∉ [M.rb] := fun k _ hk hh => hk (List.mem_singleton.1 hh)
  have ho2 : ∀ k, (M.nv.ownBlock = some k ∨ M.wv.ownBlock = some k ∨ M.sv.ownBlock = some k ∨ M.pv.ownBlock = some k ∨ ∃ v ∈ M.ds, v.ownBlock = some k) → k ∉ [M.rb] := fun k hk hh => by
    rw [List.mem_singleton.1 hh] at hk
    refine (List.nodup_cons.1 h.nodup).1 ?_
    simp only [List.mem_append, Option.mem_toList, List.mem_flatMap]
    exact hk
  have hlow : ∀ k, k ∈ M.own → k < w.heap.size := h.lt
  refine ⟨⟨?_, row_kept h1.nodes hf fun b hb => ho2 b (.inl hb), all2_mem h1.data fun v _ hv hd => data_kept hd hf fun b hb => ho2 b (.inr (.inr (.inr (.inr ⟨v, hv, hb⟩)))), ?_, row_kept h1.safe hf fun b hb => ho2 b (.inr (.inr (.inl hb))), row_kept h1.pend hf fun b hb => ho2 b (.inr (.inr (.inr (.inl hb)))), ?_⟩, ?_, ?_, rfl⟩
  · show (w1.setCell ⟨M.rb, 2, none⟩ v).heap[M.rb]? = _
    rw [heap_setCell_at h1.blk]
    rfl
  · exact own_base (row_kept ho hf fun b hb hh => by
      rw [List.mem_singleton.1 hh] at hb
      have := hnew _ hb
      omega) (Nat.zero_le _)
  · show (M.rb :: (M.nv.ownBlock.toList ++ (v.ownBlock.toList ++ (M.sv.ownBlock.toList ++ (M.pv.ownBlock.toList ++ M.ds.flatMap fun v => v.ownBlock.toList))))).Nodup
    have hnd : ((M.rb :: M.nv.ownBlock.toList) ++ (M.wv.ownBlock.toList ++ (M.sv.ownBlock.toList ++ (M.pv.ownBlock.toList ++ M.ds.flatMap fun v => v.ownBlock.toList)))).Nodup := h.nodup
    refine nodup_swap (A := M.rb :: M.nv.ownBlock.toList) hnd (opt_nodup _) fun y hy => ?_
    have h5 := hnew y (by simpa using hy)
    refine ⟨fun hh => ?_, fun hh => ?_⟩
    · have := hlow y (by
        show y ∈ (M.rb :: M.nv.ownBlock.toList) ++ (M.wv.ownBlock.toList ++ (M.sv.ownBlock.toList ++ (M.pv.ownBlock.toList ++ M.ds.flatMap fun v => v.ownBlock.toList)))
        exact List.mem_append_left _ hh)
      omega
    · have := hlow y (by
        show y ∈ (M.rb :: M.nv.ownBlock.toList) ++ (M.wv.ownBlock.toList ++ (M.sv.ownBlock.toList ++ (M.pv.ownBlock.toList ++ M.ds.flatMap fun v => v.ownBlock.toList)))
        exact List.mem_append_right _ (List.mem_append_right _ hh))
      omega
  · have hfb : Fr [M.rb] w w1 := Fr.of_below hb _
    exact (hfb.trans hf).more fun k hk => by rw [List.mem_singleton.1 hk]; exact RMem.mem_own.2 (.inl rfl)
  · intro k hk
    rcases RMem.mem_own.1 hk with h5 | h5 | h5 | h5 | h5 | h5
    · exact .inl (RMem.mem_own.2 (.inl h5))
    · exact .inl (RMem.mem_own.2 (.inr (.inl h5)))
    · exact .inr (hnew k h5)
    · exact .inl (RMem.mem_own.2 (.inr (.inr (.inr (.inl h5)))))
    · exact .inl (RMem.mem_own.2 (.inr (.inr (.inr (.inr (.inl h5))))))
    · exact .inl (RMem.mem_own.2 (.inr (.inr (.inr (.inr (.inr h5))))))
theorem nodup_mid {A X C : List Nat} (h : (A ++ (X ++ C)).Nodup) : ∀ x ∈ X, x ∉ A ∧ x ∉ C := fun x hx => by
  obtain ⟨_, h2, h3⟩ := List.nodup_append.1 h
  obtain ⟨_, _, h6⟩ := List.nodup_append.1 h2
  exact ⟨fun hh => h3 x hh x (List.mem_append_left _ hx) rfl, fun hh => h6 x hx x hh rfl⟩
/-- the pending changes have grown -/
theorem RAt.setPend {w w2 : World} {M : RMem} {R : RSt} (h : RAt w M R) (hg : w.grownBy w2 M.pv.ownBlock) {v : Value} {P : List RChg} (ho : w2.ownsRow 0 99 4 v P.length (chCells P))
    (hn : ∀ b, v.ownBlock = some b → M.pv.ownBlock = some b ∨ w.heap.size ≤ b) :
    RAt (w2.setCell ⟨M.rb, 4, none⟩ v) { M with pv := v } { R with pend := P } ∧ RGr M w { M with pv := v } (w2.setCell ⟨M.rb, 4, none⟩ v) := by
  have e0 : M.own = (M.rb :: (M.nv.ownBlock.toList ++ (M.wv.ownBlock.toList ++ M.sv.ownBlock.toList))) ++ (M.pv.ownBlock.toList ++ M.ds.flatMap fun v => v.ownBlock.toList) := by
    unfold RMem.own
    simp [List.append_assoc]
  have hnd := h.nodup
  rw [e0] at hnd
  have hmid := nodup_mid hnd
  have hlow : ∀ k, k ∈ M.own → k < w.heap.size := h.lt
  have hfg : Fr M.pv.ownBlock.toList w w2 := Fr.of_grown hg
  have hA : ∀ k, k ∈ M.rb :: (M.nv.ownBlock.toList ++ (M.wv.ownBlock.toList ++ M.sv.ownBlock.toList)) → k ∉ M.pv.ownBlock.toList := fun k hk hh => (hmid k hh).1 hk
  have hC : ∀ k, k ∈ (M.ds.flatMap fun v => v.ownBlock.toList) → k ∉ M.pv.ownBlock.toList := fun k hk hh => (hmid k hh).2 hk
  have hblk : w2.heap[M.rb]? = some (.cells (rCells M R) 54 (0, 0)) := (hfg.block _ (lt_of_heap h.blk) (hA _ (by simp))).trans h.blk
  have hf : Fr [M.rb] w2 (w2.setCell ⟨M.rb, 4, none⟩ v) := Fr.setCell _ _ _ _ (by simp)
  have ho2 : ∀ k, (M.nv.ownBlock = some k ∨ M.wv.ownBlock = some k ∨ M.sv.ownBlock = some k ∨ M.pv.ownBlock = some k ∨ ∃ v ∈ M.ds, v.ownBlock = some k) → k ∉ [M.rb] := fun k hk hh => by
    rw [List.mem_singleton.1 hh] at hk
    refine (List.nodup_cons.1 h.nodup).1 ?_
    simp only [List.mem_append, Option.mem_toList, List.mem_flatMap]
    exact hk
  have hF : Fr (M.rb :: M.pv.ownBlock.toList) w (w2.setCell ⟨M.rb, 4, none⟩ v) := (hfg.more fun k hk => List.mem_cons_of_mem _ hk).trans (hf.more fun k hk => by rw [List.mem_singleton.1 hk]; simp)
  have hout : ∀ k, (M.nv.ownBlock = some k ∨ M.wv.ownBlock = some k ∨ M.sv.ownBlock = some k) ∨ (∃ v ∈ M.ds, v.ownBlock = some k) → k ∉ M.rb :: M.pv.ownBlock.toList := fun k hk hh => by
    rcases List.mem_cons.1 hh with e | e
    · refine ho2 k ?_ (by rw [e]; simp)
      rcases hk with (h1 | h1 | h1) | h1
      · exact .inl h1
      · exact .inr (.inl h1)
      · exact .inr (.inr (.inl h1))
      · exact .inr (.inr (.inr (.inr h1)))
    · rcases hk with hk | hk
      · refine hA k ?_ e
        simp only [List.mem_cons, List.mem_append, Option.mem_toList]
        exact .inr hk
      · refine hC k ?_ e
        simp only [List.mem_flatMap, Option.mem_toList]
        exact hk
  refine ⟨⟨?_, row_kept h.nodes hF fun b hb => hout b (.inl (.inl hb)), all2_mem h.data fun v _ hv hd => data_kept hd hF fun b hb => hout b (.inr ⟨v, hv, hb⟩), row_kept h.now hF fun b hb => hout b (.inl (.inr (.inl hb))), row_kept h.safe hF fun b hb => hout b (.inl (.inr (.inr hb))), ?_, ?_⟩, ?_, ?_, rfl⟩
  · show (w2.setCell ⟨M.rb, 4, none⟩ v).heap[M.rb]? = _
    rw [heap_setCell_at hblk]
    rfl
  · refine row_kept ho hf fun b hb hh => ?_
    rw [List.mem_singleton.1 hh] at hb
    rcases hn _ hb with h1 | h1
    · exact hA M.rb (by simp) (by simpa using h1)
    · have := lt_of_heap h.blk
      omega
  · have e1 : RMem.own { M with pv := v } = (M.rb :: (M.nv.ownBlock.toList ++ (M.wv.ownBlock.toList ++ M.sv.ownBlock.toList))) ++ (v.ownBlock.toList ++ M.ds.flatMap fun v => v.ownBlock.toList) := by
      unfold RMem.own
      simp [List.append_assoc]
    rw [e1]
    refine nodup_swap hnd (opt_nodup _) fun y hy => ?_
    rcases hn y (by simpa using hy) with h1 | h1
    · exact hmid y (by simpa using h1)
    · refine ⟨fun hh => ?_, fun hh => ?_⟩
      · have := hlow y (by rw [e0]; exact List.mem_append_left _ hh)
        omega
      · have := hlow y (by rw [e0]; exact List.mem_append_right _ (List.mem_append_right _ hh))
        omega
  · refine hF.more fun k hk => ?_
    rcases List.mem_cons.1 hk with e | e
    · rw [e]; exact RMem.mem_own.2 (.inl rfl)
    · exact RMem.mem_own.2 (.inr (.inr (.inr (.inr (.inl (by simpa using e))))))
  · intro k hk
    rcases RMem.mem_own.1 hk with h5 | h5 | h5 | h5 | h5 | h5
    · exact .inl (RMem.mem_own.2 (.inl h5))
    · exact .inl (RMem.mem_own.2 (.inr (.inl h5)))
    · exact .inl (RMem.mem_own.2 (.inr (.inr (.inl h5))))
    · exact .inl (RMem.mem_own.2 (.inr (.inr (.inr (.inl h5)))))
    · rcases hn k h5 with h6 | h6
      · exact .inl (RMem.mem_own.2 (.inr (.inr (.inr (.inr (.inl h6))))))
      · exact .inr h6
    · exact .inl (RMem.mem_own.2 (.inr (.inr (.inr (.inr (.inr h5))))))
theorem infoChange1 : (Tryz.prog.info? 99).map (fun i => (i.zero, i.size, i.bytes)) = some (some (.agg #[.string ⟨#[]⟩, .string ⟨#[]⟩, .string ⟨#[]⟩, .int .i64 0]), 4, 56) := by kernel_rfl
theorem one_chg1 {a b c : ByteArray} {n : Int} : ∀ v ∈ [Value.string a, .string b, .string c, .int .i64 n], v.oneCell' = true := by
  intro v hv
  simp only [List.mem_cons, List.not_mem_nil, or_false] at hv
  rcases hv with rfl | rfl | rfl | rfl <;> rfl
theorem chCells_app (P Q : List RChg) : chCells (P ++ Q) = chCells P ++ chCells Q := by unfold chCells; rw [List.map_append, List.flatten_append]
set_option maxHeartbeats 8000000 in
set_option maxRecDepth 100000 in
theorem change_any (w : World) (M : RMem) (R : RSt) (h : RAt w M R) (c : RChg) (hc : c.off.size ≠ 0 ∨ c.on.size ≠ 0) (hL : R.now.length ≤ 1048576) (hp : R.pend.length ≤ 1048576) :
    Calls Tryz.prog 73 #[.pointer (some ⟨M.rb, 0, none⟩), .agg (chCell c).toArray] w (RPost w M (R.change c) (.tuple #[])) := by
  obtain ⟨P, hP⟩ : ∃ P, P = RPost w M (R.change c) (.tuple #[]) := ⟨_, rfl⟩
  rw [← hP]
  have HP := Lib.hid hP
  have hb0 : Below w.heap.size w (w.alloc (.cells (chCell c).toArray 99)) := (Below.refl _ _).alloc (Nat.le_refl _) _
  have h0 := h.below hb0
  have hnew := heap_alloc_new w (.cells (chCell c).toArray 99)
  obtain ⟨dir, off, on, no⟩ := c
  have hdo := fun (w1 : World) (A : Option Addr) (cap : Nat) (hat : NAt w1 A cap R.now) => does_any w1 A cap R.now ⟨dir, off, on, no⟩ hat hL hc
  have Hdo := Lib.hid hdo
  unfold chCell at h0 hnew Hdo hb0 ⊢
  simp only at h0 hnew Hdo hb0 ⊢
  have H0 := Lib.hid h0
  have B0 := Lib.hid hb0
  have hrb : M.rb ≠ w.heap.size := Nat.ne_of_lt (lt_of_heap h.blk)
  have H0lt : Hid (∀ b, M.pv.ownBlock = some b → b < w.heap.size) := Lib.hid fun b hb => h.lt b (RMem.mem_own.2 (.inr (.inr (.inr (.inr (.inl hb))))))
  obtain ⟨iC, hiC, hzC, hsC, hbC⟩ := info_parts infoChange1
  clear hP hdo hc
  obtain ⟨bx, hbx⟩ : ∃ bx, bx = w.heap.size := ⟨_, rfl⟩
  have Hbx := Lib.hid hbx
  go_enter Tryz.func73, Tryz.ntmps73
  go_wp2_with fail
  generalize w.alloc (.cells #[.string dir, .string off, .string on, .int .i64 (no : Nat)] 99) = w0 at *
  rw [← hbx] at hnew hrb ⊢
  clear hbx
  obtain ⟨Aw, cw, hwv, hat⟩ := h0.now.rows
  have q := (blk_cells (w := w0.drew) (b := bx) hnew).1
  have q0 : w0.drew.cell? ⟨bx, 0, none⟩ = some (.string dir) := q 0
  have q1 : w0.drew.cell? ⟨bx, 1, none⟩ = some (.string off) := q 1
  have q2 : w0.drew.cell? ⟨bx, 2, none⟩ = some (.string on) := q 2
  have q3 : w0.drew.cell? ⟨bx, 3, none⟩ = some (.int .i64 (no : Nat)) := q 3
  have c2 : w0.drew.cell? ⟨M.rb, 2, none⟩ = some (.slice Aw R.now.length cw) := by rw [← hwv]; exact h0.cell 2 _ rfl
  have Hat := Lib.hid (show NAt w0.drew Aw cw R.now from hat.keep fun _ _ h => h)
  have Hnew := Lib.hid hnew
  clear q hat hwv h0 hnew h hb0
  with_reducible refine g_mixx [(0, 0), (1, 0), (2, 0), (3, 0), (4, 0), (5, 0), (6, 2), (7, 0), (8, 0), (9, 3)] (fun w' => w'.cell? ⟨M.rb, 2, none⟩ = some (.slice Aw R.now.length cw) ∧ (w'.cell? ⟨bx, 0, none⟩ = some (.string dir) ∧ w'.cell? ⟨bx, 1, none⟩ = some (.string off)) ∧ w'.cell? ⟨bx, 2, none⟩ = some (.string on) ∧ w'.cell? ⟨bx, 3, none⟩ = some (.int .i64 (no : Nat))) 0 _ rfl (by kernel_rfl) (by kernel_rfl) ?_ ?_
  · exact ⟨c2, ⟨q0, q1⟩, q2, q3⟩
  intro OPS HD
  simp only [mixX, nthO, consX]
  iterate 6 ((with_reducible refine x_val (v := ?_) ?_ ?_ ?_); rotate_left; (rintro _ ⟨h1, ⟨h2, h3⟩, h4, h5⟩; go_simp; first | done | rfl | (constructor <;> rfl)); exact ⟨c2, ⟨q0, q1⟩, q2, q3⟩)
  with_reducible refine x_one ?_
  refine l_call ?_ ((Hdo.out w0.drew Aw cw Hat.out).mono ?_)
  · go_simp
  rintro e w1 ⟨v, rfl, ho, hb⟩
  refine ⟨_, rfl, ?_⟩
  obtain ⟨n1, hn1⟩ : ∃ n1, n1 = (does R.now ⟨dir, off, on, no⟩).length := ⟨_, rfl⟩
  obtain ⟨A1, c1, hv, hat1⟩ := NOwn.rows ho
  rw [← hn1] at hv
  subst hv
  have hb1 : Below w0.heap.size w0 w1 := (show Below w0.heap.size w0 w0.drew from ⟨rfl, rfl, rfl, Nat.le_refl _, fun _ _ => rfl⟩).trans hb
  have hcw := Cells.of_below hb
  have c2 := hcw _ _ c2
  have q0 := hcw _ _ q0
  have q1 := hcw _ _ q1
  have q2 := hcw _ _ q2
  have q3 := hcw _ _ q3
  obtain ⟨hr1, gr1⟩ := H0.out.setNow hb1 (show NOwn w1 w0.heap.size (.slice A1 n1 c1) (does R.now ⟨dir, off, on, no⟩) from ho)
  have f2 : w1.frozen? ⟨M.rb, 2, none⟩ = false := (blk_cells (H0.out.below hb1).blk).2.1 2
  have hn2 : w1.heap[bx]? = some (.cells #[.string dir, .string off, .string on, .int .i64 (no : Nat)] 99 (0, 0)) := (hb1.block bx (lt_of_heap Hnew.out)).trans Hnew.out
  have hn3 : (w1.setCell ⟨M.rb, 2, none⟩ (.slice A1 n1 c1)).heap[bx]? = some (.cells #[.string dir, .string off, .string on, .int .i64 (no : Nat)] 99 (0, 0)) := ((show Fr [M.rb] w1 (w1.setCell ⟨M.rb, 2, none⟩ (.slice A1 n1 c1)) from Fr.setCell _ _ _ _ (by simp)).block bx (lt_of_heap hn2) (fun hh => hrb (List.mem_singleton.1 hh).symm)).trans hn2
  have HR1 := Lib.hid hr1
  have GR1 := Lib.hid gr1
  have Hn3 := Lib.hid hn3
  clear hr1 gr1 hn2 hn3 hat1 ho hb hb1 hcw
  refine x_keep ⟨c2, ⟨q0, q1⟩, q2, q3⟩ ?_
  iterate 2 ((with_reducible refine x_val (v := ?_) ?_ ?_ ?_); rotate_left; (rintro _ ⟨h1, ⟨h2, h3⟩, h4, h5⟩; go_simp; first | done | rfl | (constructor <;> rfl)); exact ⟨c2, ⟨q0, q1⟩, q2, q3⟩)
  with_reducible refine x_three ?_
  with_reducible refine l_skip (w' := w1.setCell ⟨M.rb, 2, none⟩ (.slice A1 n1 c1)) ?_ ?_
  · go_simp
  refine x_last ?_
  with_reducible refine x_end ?_
  simp only [Act.put, List.setIfInBounds_toArray, List.set_cons_zero, List.set_cons_succ]
  generalize w1.setCell ⟨M.rb, 2, none⟩ (.slice A1 n1 c1) = w2 at *
  clear c2 q0 q1 q2 q3 f2 Hat H0 Hnew
  go_wp2_with fail
  obtain ⟨Ap, cp, hpv⟩ := own_formT HR1.out.pend
  simp only at hpv
  have q := (blk_cells (w := w2.drew) (b := bx) Hn3.out).1
  have q0 : w2.drew.cell? ⟨bx, 0, none⟩ = some (.string dir) := q 0
  have q1 : w2.drew.cell? ⟨bx, 1, none⟩ = some (.string off) := q 1
  have q2 : w2.drew.cell? ⟨bx, 2, none⟩ = some (.string on) := q 2
  have q3 : w2.drew.cell? ⟨bx, 3, none⟩ = some (.int .i64 (no : Nat)) := q 3
  have c4 : w2.drew.cell? ⟨M.rb, 4, none⟩ = some (.slice Ap R.pend.length cp) := by rw [← hpv]; exact HR1.out.cell 4 _ rfl
  have Hpv := Lib.hid hpv
  clear q hpv
  with_reducible refine g_mixx [(0, 0), (1, 0), (2, 0), (3, 0), (4, 0), (5, 0), (6, 2), (7, 2), (8, 0), (9, 0), (10, 3)] (fun w' => w'.cell? ⟨M.rb, 4, none⟩ = some (.slice Ap R.pend.length cp) ∧ (w'.cell? ⟨bx, 0, none⟩ = some (.string dir) ∧ w'.cell? ⟨bx, 1, none⟩ = some (.string off)) ∧ w'.cell? ⟨bx, 2, none⟩ = some (.string on) ∧ w'.cell? ⟨bx, 3, none⟩ = some (.int .i64 (no : Nat))) 0 _ rfl (by kernel_rfl) (by kernel_rfl) ?_ ?_
  · exact ⟨c4, ⟨q0, q1⟩, q2, q3⟩
  intro OPS HD
  simp only [mixX, nthO, consX]
  iterate 6 ((with_reducible refine x_val (v := ?_) ?_ ?_ ?_); rotate_left; (rintro _ ⟨h1, ⟨h2, h3⟩, h4, h5⟩; go_simp; first | done | rfl | (constructor <;> rfl)); exact ⟨c4, ⟨q0, q1⟩, q2, q3⟩)
  with_reducible refine x_one ?_
  with_reducible refine l_val (v := .slice (some ⟨w2.drew.heap.size, 0, none⟩) 1 1) (w' := w2.drew.alloc (.cells #[.string dir, .string off, .string on, .int .i64 (no : Nat)] 99)) ?_ ?_
  · go_simp
  have hal : Below w2.heap.size w2 (w2.drew.alloc (.cells #[.string dir, .string off, .string on, .int .i64 (no : Nat)] 99)) := (show Below w2.heap.size w2 w2.drew from ⟨rfl, rfl, rfl, Nat.le_refl _, fun _ _ => rfl⟩).alloc (Nat.le_refl _) _
  have hcw := Cells.of_below hal
  have d4 := hcw _ _ (show w2.cell? _ = _ from c4)
  have d0 := hcw _ _ (show w2.cell? _ = _ from q0)
  have d1 := hcw _ _ (show w2.cell? _ = _ from q1)
  have d2 := hcw _ _ (show w2.cell? _ = _ from q2)
  have d3 := hcw _ _ (show w2.cell? _ = _ from q3)
  refine x_keep ⟨d4, ⟨d0, d1⟩, d2, d3⟩ ?_
  with_reducible refine x_one ?_
  refine wpList_append_own_at _ rfl (.tmp 17) (.tmp 19) 52 rfl 0 99 iC (.agg #[.string ⟨#[]⟩, .string ⟨#[]⟩, .string ⟨#[]⟩, .int .i64 0]) 4 56 Tryz.underlying52 hiC hzC hsC hbC rfl (by omega) (.slice Ap R.pend.length cp) R.pend.length (chCells R.pend) ?_ (World.ownsRow.alloc (show w2.drew.ownsRow 0 99 4 (.slice Ap R.pend.length cp) R.pend.length (chCells R.pend) from Hpv.out ▸ (HR1.out.drewN 1).pend) _) ⟨w2.drew.heap.size, 0, none⟩ 1 1 [.string dir, .string off, .string on, .int .i64 (no : Nat)] ?_ rfl (fun j v hv => World.news_of_block (heap_alloc_new _ _) j v hv) one_chg1 (by unfold maxLen; omega) (by omega) (Nat.zero_le _) ?_
  · simp [Act.eval, Act.put]
  · simp [Act.eval, Act.put]
  intro v7 w7 h7 hg7 _ hat7
  have hg1 := (World.grownBy_alloc w2.drew (.cells #[.string dir, .string off, .string on, .int .i64 (no : Nat)] 99) (Value.slice Ap R.pend.length cp).ownBlock).andThen hg7 (fun j hj => .inr hj)
  have hgr : w2.grownBy w7 (Value.slice Ap R.pend.length cp).ownBlock := ⟨hg1.os, hg1.tape, hg1.output, hg1.size, hg1.block⟩
  rw [← Hpv.out] at hgr
  have hrow : w7.ownsRow 0 99 4 v7 (R.pend ++ [⟨dir, off, on, no⟩] : List RChg).length (chCells (R.pend ++ [⟨dir, off, on, no⟩])) := by
    rw [chCells_app, List.length_append]
    exact h7
  have hown : ∀ b, v7.ownBlock = some b → M.pv.ownBlock = some b ∨ w2.heap.size ≤ b := fun b hb => by
    rcases hat7 with e | e
    · rw [e, ← Hpv.out] at hb
      exact .inl hb
    · rw [e] at hb
      simp at hb
      right
      rw [← hb]
      have : w2.drew.heap.size = w2.heap.size := rfl
      omega
  obtain ⟨n7, hn7⟩ : ∃ n7, n7 = (R.pend ++ [⟨dir, off, on, no⟩] : List RChg).length := ⟨_, rfl⟩
  obtain ⟨A7, c7, hv7⟩ := own_formT hrow
  rw [← hn7] at hv7
  obtain ⟨hr2, gr2⟩ := HR1.out.setPend hgr hrow hown
  have hrb2 : ∀ b, M.pv.ownBlock = some b → b ≠ M.rb := fun b hb e => by
    refine (List.nodup_cons.1 HR1.out.nodup).1 ?_
    rw [← e]
    simp only [List.mem_append, Option.mem_toList]
    exact .inr (.inr (.inr (.inl hb)))
  have hblk : w7.heap[M.rb]? = w2.heap[M.rb]? := hgr.block _ (lt_of_heap HR1.out.blk) fun e => hrb2 _ e.symm rfl
  have hbk2 := hblk.trans HR1.out.blk
  have f4 : w7.frozen? ⟨M.rb, 4, none⟩ = false := (blk_cells hbk2).2.1 4
  have hbx2 : ∀ b, M.pv.ownBlock = some b → b ≠ bx := fun b hb e => by
    obtain ⟨_, cur, hc⟩ := own_blk HR1.out.pend b hb
    have hlt := H0lt.out b hb
    rw [e] at hlt
    have := Hbx.out
    omega
  have hnx : w7.heap[bx]? = some (.cells #[.string dir, .string off, .string on, .int .i64 (no : Nat)] 99 (0, 0)) := (hgr.block _ (lt_of_heap Hn3.out) fun e => hbx2 _ e.symm rfl).trans Hn3.out
  have qq := (blk_cells hnx).1
  have d0 : w7.cell? ⟨bx, 0, none⟩ = some (.string dir) := qq 0
  have d1 : w7.cell? ⟨bx, 1, none⟩ = some (.string off) := qq 1
  have d2 : w7.cell? ⟨bx, 2, none⟩ = some (.string on) := qq 2
  have d3 : w7.cell? ⟨bx, 3, none⟩ = some (.int .i64 (no : Nat)) := qq 3
  have d4 : w7.cell? ⟨M.rb, 4, none⟩ = some (.slice Ap R.pend.length cp) := by rw [← Hpv.out]; exact (blk_cells hbk2).1 4
  rw [hv7] at hr2 gr2 ⊢
  have Hfin : Hid (P (.returned (.tuple #[])) (w7.setCell ⟨M.rb, 4, none⟩ (.slice A7 n7 c7))) := Lib.hid (by
    rw [HP.out]
    exact ⟨rfl, _, hr2, ((RGr.of_below B0.out).trans GR1.out).trans gr2⟩)
  clear hn7 hg1 hr2 gr2 hrow hown hgr h7 hg7 hat7 hblk hbk2 hnx qq hrb2 hbx2 hal hcw
  refine x_keep ⟨d4, ⟨d0, d1⟩, d2, d3⟩ ?_
  iterate 2 ((with_reducible refine x_val (v := ?_) ?_ ?_ ?_); rotate_left; (rintro _ ⟨h1, ⟨h2, h3⟩, h4, h5⟩; go_simp; first | done | rfl | (constructor <;> rfl)); exact ⟨d4, ⟨d0, d1⟩, d2, d3⟩)
  with_reducible refine x_three ?_
  with_reducible refine l_skip (w' := w7.setCell ⟨M.rb, 4, none⟩ (.slice A7 n7 c7)) ?_ ?_
  · go_simp
  refine x_last ?_
  with_reducible refine x_end ?_
  simp only [Act.put, List.setIfInBounds_toArray, List.set_cons_zero, List.set_cons_succ]
  go_wp2_with fail
  go_end0
  exact Hfin.out
end Go.Proofs.YtaolddgnannojaaGreatDoor
