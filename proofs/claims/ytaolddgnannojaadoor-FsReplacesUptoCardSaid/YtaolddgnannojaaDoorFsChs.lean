/-
  changes: a change of names, now, and later for good.
-/
import Derived.Test.YtaolddgnannojaaDoorFsChg
namespace Go.Proofs.YtaolddgnannojaaDoor
open Go.RowKit Go.Maps

attribute [local go_sem] lt1 lt2 lt3 lt4 lt5 lt6

theorem infoChange : (Tryd.prog.info? 77).map (fun i => (i.zero, i.size, i.bytes)) = some (some (.agg #[.string ⟨#[]⟩, .int .i64 0, .nilFunc]), 3, 32) := by kernel_rfl
theorem own_formT {w : World} {base k n : Nat} {t : TypeId} {v : Value} {xs : List Value} (h : w.ownsRow base t k v n xs) : ∃ A cap, v = .slice A n cap := by
  obtain ⟨A, c, h, _⟩ := own_form h
  exact ⟨A, c, h⟩
def FsSt.changes (S : FsSt) (p : Pend) : FsSt := { S with names := p.chg.on S.names, pend := S.pend ++ [p] }
theorem one_change {c : Value} {n : Int} {s : ByteArray} (hc : c.oneCell' = true) : ∀ v ∈ [Value.string s, .int .i64 n, c], v.oneCell' = true := by
  intro v hv
  simp only [List.mem_cons, List.not_mem_nil, or_false] at hv
  rcases hv with rfl | rfl | rfl
  · rfl
  · rfl
  · exact hc
theorem Frm.trans {S : List Nat} {a b c : World} (h : Frm S a b) (k : Frm S b c) : Frm S a c := ⟨h.fr.trans k.fr, h.may⟩
def ChsPost (w : World) (M : FsMem) (S : FsSt) (e : Ending) (w' : World) : Prop := e = .returned (.tuple #[]) ∧ ∃ M', FsAt w' M' S ∧ Gr M w M' w'
set_option maxHeartbeats 2000000 in
set_option maxRecDepth 10000 in
theorem changes_any (w : World) (M : FsMem) (S : FsSt) (h : FsAt w M S) (p : Pend) (v : Value) (hv : ChgAt w p.chg v) (hl : Maps.size S.names < maxLen) (hpl : S.pend.length ≤ 1099511627776) :
    Calls Tryd.prog 39 #[.pointer (some ⟨M.fb, 0, none⟩), .string p.dir, .int .i64 (p.file : Nat), v] w (ChsPost w M (S.changes p)) := by
  obtain ⟨F, cs, rfl, eg, hc⟩ := chg_any w M.nm S.names p.chg v hv h.names hl
  obtain ⟨iC, hiC, hzC, hsC, hbC⟩ := info_parts infoChange
  have c3 : w.cell? ⟨M.fb, 3, none⟩ = some (.map (some M.nm)) := (blk_cells h.blk).1 3
  have H := Lib.hid h
  have Hv := Lib.hid hv
  have Hc := Lib.hid hc
  clear h hv hc
  go_enter Tryd.func39, Tryd.ntmps39
  go_wp2_with (first | (go_at_fn F; refine Hc.out.mono ?_) | go_in)
  rintro e w1 ⟨rfl, hD, hg⟩
  obtain ⟨h1, g1⟩ := H.out.named (Fr.of_grown hg) hD (H.out.natN.chg _)
  have hv1 : ChgAt w1 p.chg (.func (.func F) #[] cs) := Hv.out.kept ⟨g1.fr, fun k hk _ => H.out.mays k hk⟩
  have hsz := hg.size
  obtain ⟨csP, p1, p2⟩ := h1.pend
  obtain ⟨Ap, cp, hpv⟩ := own_formT p2
  have c6 : w1.cell? ⟨M.fb, 6, none⟩ = some M.pv := (blk_cells h1.blk).1 6
  rw [hpv] at c6
  have H1 := Lib.hid h1
  have G1 := Lib.hid g1
  have Hv1 := Lib.hid hv1
  have P1 := Lib.hid p1
  have P2 := Lib.hid p2
  have Hpv := Lib.hid hpv
  clear c3 hD hg h1 g1 hv1 p1 p2 hpv Hc Hv
  go_wp2_with (first | (at_builtin; refine wpList_append_own_at _ rfl _ _ 61 rfl 0 77 iC (.agg #[.string ⟨#[]⟩, .int .i64 0, .nilFunc]) 3 32 Tryd.underlying61 hiC hzC hsC hbC rfl (by omega) M.pv S.pend.length csP.flatten Hpv.out.symm (World.ownsRow.alloc P2.out _) ⟨w1.heap.size, 0, none⟩ 1 1 [.string p.dir, .int .i64 (p.file : Nat), .func (.func F) #[] cs] rfl rfl (fun j v hv => World.news_of_block (heap_alloc_new _ _) j v hv) (one_change rfl) (by unfold maxLen; omega) (by omega) (Nat.zero_le _) ?_))
  intro v' w2 hown hgrow _ hat
  obtain ⟨Av, cv, hv'⟩ := own_formT hown
  have hfr2 : Fr M.pv.ownBlock.toList w1 w2 := (Fr.alloc _ _ _).trans (Fr.of_grown hgrow)
  have hfbn : M.fb ∉ M.pv.ownBlock.toList := fun hh => by
    have h5 := H1.out.nodup
    unfold FsMem.own at h5
    exact (List.nodup_cons.1 h5).1 (by simp only [List.mem_cons, List.mem_append]; exact .inr (.inr (.inr (.inl hh))))
  have hb2 := (hfr2.block _ (lt_of_heap H1.out.blk) hfbn).trans H1.out.blk
  have c6 : w2.cell? ⟨M.fb, 6, none⟩ = some (.slice Ap S.pend.length cp) := by rw [(blk_cells hb2).1 6, ← Hpv.out]; rfl
  have f6 : w2.frozen? ⟨M.fb, 6, none⟩ = false := (blk_cells hb2).2.1 6
  have hb3 := heap_setCell_at hb2 6 v'
  have hfr3 : Fr [M.fb] w2 (w2.setCell ⟨M.fb, 6, none⟩ v') := Fr.setCell _ _ _ _ (by simp)
  have hvb : ∀ b, v'.ownBlock = some b → b ∉ [M.fb] := fun b hb hh => by
    rw [List.mem_singleton.1 hh] at hb
    rcases hat with h5 | h5
    · rw [h5] at hb
      exact hfbn (by rw [hb]; simp)
    · rw [h5] at hb
      have := lt_of_heap H1.out.blk
      simp at hb
      omega
  have hown3 := row_kept hown hfr3 hvb
  have hfr : Fr (M.fb :: M.pv.ownBlock.toList) w1 (w2.setCell ⟨M.fb, 6, none⟩ v') := (hfr2.more fun k hk => by simp [hk]).trans (hfr3.more fun k hk => by rw [List.mem_singleton.1 hk]; simp)
  have hfm : Frm (M.fb :: M.pv.ownBlock.toList) w1 (w2.setCell ⟨M.fb, 6, none⟩ v') := ⟨hfr, fun k hk _ => H1.out.mays k (by
    unfold FsMem.own
    rcases List.mem_cons.1 hk with rfl | hk
    · simp
    · simp only [List.mem_cons, List.mem_append]; exact .inr (.inr (.inr (.inr (.inl hk)))))⟩
  obtain ⟨h4, g4⟩ := H1.out.pended (S' := S.changes p) (pv' := v') hfr hb3 ⟨csP ++ [[.string p.dir, .int .i64 (p.file : Nat), .func (.func F) #[] cs]], (P1.out.mono fun _ _ h => h.kept hfm).append ⟨_, rfl, Hv1.out.kept hfm⟩, by
      rw [List.flatten_append, List.flatten_singleton]
      show World.ownsRow _ 0 _ 3 v' (S.pend ++ [p]).length _
      rw [List.length_append]
      exact hown3⟩ (hat.imp id fun h5 g hg => by rw [h5] at hg; simp at hg; omega) rfl rfl rfl
  have Hfin : Hid (ChsPost w M (S.changes p) (.returned (.tuple #[])) (w2.setCell ⟨M.fb, 6, none⟩ v')) := Lib.hid ⟨rfl, _, h4, G1.out.trans g4⟩
  rw [hv'] at Hfin ⊢
  clear hown hgrow hat hv' hfr2 hfbn hb2 hb3 hfr3 hvb hown3 hfr hfm h4 g4
  go_wp2_with fail
  go_end0
  exact Hfin.out
end Go.Proofs.YtaolddgnannojaaDoor
