/-
  write: does a write that has no error of its own, if it is not the one that fails.
-/
import Derived.Test.YtaolddgnannojaaDoorFsChs
namespace Go.Proofs.YtaolddgnannojaaDoor
open Go.RowKit Go.Maps

attribute [local go_sem] lt1 lt2 lt3 lt4 lt5 lt6

def FsSt.tick (S : FsSt) : FsSt := { S with armed := S.armed - 1 }
def FsSt.fails (S : FsSt) : FsSt := { S with armed := 0, down := true }
def FsSt.stepped (S : FsSt) : FsSt := { S with steps := S.steps + 1 }
/-- a write that would lead to S2 -/
def FsSt.wrote (S S2 : FsSt) : FsSt := if S.armed = 1 then S.fails else S2.stepped
def FsSt.wrErr (S : FsSt) : Nat := if S.armed = 1 then 5 else 0
def WrPost (w : World) (M : FsMem) (S : FsSt) (n : Nat) (e : Ending) (w' : World) : Prop := e = .returned (.int .i64 (n : Nat)) ∧ ∃ M', FsAt w' M' S ∧ Gr M w M' w'
theorem FsAt.cell {w : World} {M : FsMem} {S : FsSt} (h : FsAt w M S) (i : Nat) (u : Value) (hi : #[Value.int .i64 (S.quota : Nat), .map (some M.fm), .int .i64 (S.last : Nat), .map (some M.nm), .map (some M.dm), .int .i64 S.size, M.pv, .int .i64 (S.steps : Nat), .int .i64 (S.armed : Nat), .bool S.down][i]? = some u) : w.cell? ⟨M.fb, i, none⟩ = some u ∧ w.frozen? ⟨M.fb, i, none⟩ = false :=
  ⟨((blk_cells h.blk).1 i).trans hi, (blk_cells h.blk).2.1 i⟩
/-- a field of its own is written -/
theorem FsAt.put {w : World} {M : FsMem} {S S' : FsSt} (h : FsAt w M S) (i : Nat) (u : Value)
    (hc : (#[Value.int .i64 (S.quota : Nat), .map (some M.fm), .int .i64 (S.last : Nat), .map (some M.nm), .map (some M.dm), .int .i64 S.size, M.pv, .int .i64 (S.steps : Nat), .int .i64 (S.armed : Nat), .bool S.down].setIfInBounds i u) = #[.int .i64 (S'.quota : Nat), .map (some M.fm), .int .i64 (S'.last : Nat), .map (some M.nm), .map (some M.dm), .int .i64 S'.size, M.pv, .int .i64 (S'.steps : Nat), .int .i64 (S'.armed : Nat), .bool S'.down])
    (h1 : S'.names = S.names) (h2 : S'.dur = S.dur) (h3 : S'.files = S.files) (h4 : S'.pend = S.pend) : FsAt (w.setCell ⟨M.fb, i, none⟩ u) M S' ∧ Frm [M.fb] w (w.setCell ⟨M.fb, i, none⟩ u) := by
  have hf : Fr [M.fb] w (w.setCell ⟨M.fb, i, none⟩ u) := Fr.setCell _ _ _ _ (by simp)
  refine ⟨h.turned hf ?_ h1 h2 h3 h4, hf, fun k hk _ => h.mays k (by rw [List.mem_singleton.1 hk]; simp [FsMem.own])⟩
  rw [heap_setCell_at h.blk, hc]
theorem Gr.own {M : FsMem} {w w' : World} (h : Frm [M.fb] w w') : Gr M w M w' := Gr.of_fr h.fr fun k hk => by rw [List.mem_singleton.1 hk]; simp [FsMem.own]
set_option maxHeartbeats 2000000 in
theorem write_of (w : World) (M : FsMem) (S S2 : FsSt) (h : FsAt w M S) (F : FuncId) (cs : Array Value) (eg : ∀ args w, (callFunc F args).run Tryd.prog w = .ok (.enter F args) w) (ha : S.armed ≤ 9223372036854775807) (hs : S2.steps ≤ 1099511627776)
    (hdo : S.armed ≠ 1 → ∀ w1, FsAt w1 M S.tick → Frm [M.fb] w w1 → Calls Tryd.prog F cs w1 (ChsPost w1 M S2)) :
    Calls Tryd.prog 36 #[.pointer (some ⟨M.fb, 0, none⟩), .func (.func F) #[] cs] w (WrPost w M (S.wrote S2) S.wrErr) := by
  have c8 : w.cell? ⟨M.fb, 8, none⟩ = some (.int .i64 (S.armed : Nat)) := (h.cell 8 _ rfl).1
  have f8 : w.frozen? ⟨M.fb, 8, none⟩ = false := (blk_cells h.blk).2.1 8
  have H := Lib.hid h
  have Hdo := Lib.hid hdo
  by_cases h1 : S.armed = 1
  · have hwr : S.wrote S2 = S.fails ∧ S.wrErr = 5 := by unfold FsSt.wrote FsSt.wrErr; rw [if_pos h1, if_pos h1]; exact ⟨rfl, rfl⟩
    rw [hwr.1, hwr.2]
    obtain ⟨h2, f2⟩ := h.put (S' := { S with armed := 0 }) 8 (.int .i64 0) rfl rfl rfl rfl rfl
    have c9 : (w.setCell ⟨M.fb, 8, none⟩ (.int .i64 0)).cell? ⟨M.fb, 9, none⟩ = some (.bool S.down) := (h2.cell 9 _ rfl).1
    have f9 : (w.setCell ⟨M.fb, 8, none⟩ (.int .i64 0)).frozen? ⟨M.fb, 9, none⟩ = false := (blk_cells h2.blk).2.1 9
    obtain ⟨h3, f3⟩ := h2.put (S' := S.fails) 9 (.bool true) rfl rfl rfl rfl rfl
    have Hfin : Hid (WrPost w M S.fails 5 (.returned (.int .i64 5)) ((w.setCell ⟨M.fb, 8, none⟩ (.int .i64 0)).setCell ⟨M.fb, 9, none⟩ (.bool true))) := Lib.hid ⟨rfl, M, h3, (Gr.own f2).trans (Gr.own f3)⟩
    have hI : (0 : Int) < S.armed := by omega
    have hZ : (S.armed : Int) - 1 = 0 := by omega
    clear h hdo hwr h2 f2 h3 f3 Hdo H
    go_enter Tryd.func36, Tryd.ntmps36
    go_wp2_with fail
    go_ret
    exact Hfin.out
  · have hwr : S.wrote S2 = S2.stepped ∧ S.wrErr = 0 := by unfold FsSt.wrote FsSt.wrErr; rw [if_neg h1, if_neg h1]; exact ⟨rfl, rfl⟩
    rw [hwr.1, hwr.2]
    have hend : ∀ (w1 : World) (M1 : FsMem) (w2 : World) (M2 : FsMem), FsAt w2 M2 S2 → Gr M w M2 w2 → w2.cell? ⟨M2.fb, 7, none⟩ = some (.int .i64 (S2.steps : Nat)) ∧ w2.frozen? ⟨M2.fb, 7, none⟩ = false ∧ WrPost w M S2.stepped 0 (.returned (.int .i64 0)) (w2.setCell ⟨M2.fb, 7, none⟩ (.int .i64 ((S2.steps : Int) + 1))) := fun w1 M1 w2 M2 h2 g2 => by
      obtain ⟨h3, f3⟩ := h2.put (S' := S2.stepped) 7 (.int .i64 ((S2.steps : Int) + 1)) rfl rfl rfl rfl rfl
      exact ⟨(h2.cell 7 _ rfl).1, (blk_cells h2.blk).2.1 7, rfl, M2, h3, g2.trans (Gr.own f3)⟩
    have Hend := Lib.hid hend
    by_cases h0 : S.armed = 0
    · have h0n : ¬ (0 : Int) < S.armed := by omega
      have Hc := Lib.hid (hdo h1 w (by
        have e : S.tick = S := by cases S; simp only at h0; subst h0; rfl
        rw [e]; exact h) ⟨Fr.refl _ _, fun k hk _ => h.mays k (by rw [List.mem_singleton.1 hk]; simp [FsMem.own])⟩)
      clear h hdo hwr hend
      go_enter Tryd.func36, Tryd.ntmps36
      go_wp2_with (first | (go_at_fn F; refine Hc.out.mono ?_) | go_in)
      rintro e w2 ⟨rfl, M2, h2, g2⟩
      obtain ⟨c7, f7, hf⟩ := Hend.out w M w2 M2 h2 g2
      have Hf := Lib.hid hf
      rw [← g2.fb]
      clear h2 g2 hf c8 f8
      go_wp2_with fail
      go_ret
      exact Hf.out
    · have h0n : (0 : Int) < S.armed := by omega
      have hne : ¬ (S.armed : Int) - 1 = 0 := by omega
      obtain ⟨h2, f2⟩ := h.put (S' := S.tick) 8 (.int .i64 ((S.armed : Int) - 1)) (by
        have e : ((S.armed - 1 : Nat) : Int) = (S.armed : Int) - 1 := by omega
        show _ = #[Value.int .i64 (S.quota : Nat), .map (some M.fm), .int .i64 (S.last : Nat), .map (some M.nm), .map (some M.dm), .int .i64 S.size, M.pv, .int .i64 (S.steps : Nat), .int .i64 ((S.armed - 1 : Nat) : Int), .bool S.down]
        rw [e]
        rfl) rfl rfl rfl rfl
      have Hc := Lib.hid (hdo h1 _ h2 f2)
      have Hg2 := Lib.hid (Gr.own f2)
      clear h hdo hwr hend h2 f2
      go_enter Tryd.func36, Tryd.ntmps36
      go_wp2_with (first | (go_at_fn F; refine Hc.out.mono ?_) | go_in)
      rintro e w2 ⟨rfl, M2, h2, g2⟩
      obtain ⟨c7, f7, hf⟩ := Hend.out w M w2 M2 h2 (Hg2.out.trans g2)
      have Hf := Lib.hid hf
      rw [← g2.fb]
      clear h2 g2 hf c8 f8
      go_wp2_with fail
      go_ret
      exact Hf.out
end Go.Proofs.YtaolddgnannojaaDoor
