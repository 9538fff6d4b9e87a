/-
  Plain: an operation that answers an error leaves all as it was; how great the files are.
-/
import Derived.Test.YtaolddgnannojaaGreatDoorG22
namespace Go.Proofs.YtaolddgnannojaaGreatDoor
open Go.RowKit Go.Maps

/-- an error of its own, or a write -/
def Step (S : FsSt) (r : Nat × FsSt) : Prop := (r.1 ≠ 0 ∧ r.2 = S) ∨ ∃ S2 : FsSt, r = (S.wrErr, S.wrote S2) ∧ S2.quota = S.quota ∧ (S.size ≤ S.quota → S2.size ≤ S.quota)
theorem lose_le (S : FsSt) (a : ByteArray) : (S.lose a).size ≤ S.size ∧ (S.lose a).quota = S.quota := by
  unfold FsSt.lose
  split
  · exact ⟨Int.le_refl _, rfl⟩
  · refine ⟨?_, rfl⟩
    simp only
    omega
theorem full_no {S : FsSt} {b f : Int} (h : ¬ S.full b f = true) : b ≤ (S.quota : Int) - S.size := by
  unfold FsSt.full at h
  simp only [Bool.or_eq_true, decide_eq_true_eq] at h
  omega
theorem write_step (S : FsSt) (name : ByteArray) (d : List UInt8) : Step S (S.write name d) := by
  unfold FsSt.write
  split
  · exact .inl ⟨by simp, rfl⟩
  split
  · split
    · exact .inl ⟨by simp, rfl⟩
    · rename_i hf
      have hq := full_no hf
      refine .inr ⟨_, rfl, rfl, fun _ => ?_⟩
      show S.size + (S.more name d.length).1 ≤ S.quota
      omega
  · exact .inl ⟨by simp, rfl⟩
theorem append_step (S : FsSt) (name : ByteArray) (d : List UInt8) : Step S (S.append name d) := by
  unfold FsSt.append
  split
  · exact .inl ⟨by simp, rfl⟩
  split
  · exact .inl ⟨by simp, rfl⟩
  · split
    · exact .inl ⟨by simp, rfl⟩
    · rename_i hf
      have hq := full_no hf
      refine .inr ⟨_, rfl, rfl, fun _ => ?_⟩
      show S.size + (d.length : Int) ≤ S.quota
      omega
theorem sync_step (S : FsSt) (name : ByteArray) : Step S (S.sync name) := by
  unfold FsSt.sync
  split
  · exact .inl ⟨by simp, rfl⟩
  split
  · exact .inl ⟨by simp, rfl⟩
  · exact .inr ⟨_, rfl, rfl, fun h => h⟩
theorem rename_step (S : FsSt) (a b : ByteArray) : Step S (S.rename a b) := by
  unfold FsSt.rename
  split
  · exact .inl ⟨by simp, rfl⟩
  split
  · split
    · refine .inr ⟨_, rfl, ?_, fun h => ?_⟩
      · unfold FsSt.rename1
        split
        · rfl
        · exact (lose_le S.tick b).2
      · unfold FsSt.rename1
        split
        · exact h
        · exact Int.le_trans (lose_le S.tick b).1 h
    · exact .inl ⟨by simp, rfl⟩
  · exact .inl ⟨by simp, rfl⟩
theorem remove_step (S : FsSt) (a : ByteArray) : Step S (S.remove a) := by
  unfold FsSt.remove
  split
  · exact .inl ⟨by simp, rfl⟩
  split
  · exact .inr ⟨_, rfl, (lose_le S.tick a).2, fun h => Int.le_trans (lose_le S.tick a).1 h⟩
  · exact .inl ⟨by simp, rfl⟩
theorem syncdir_step (S : FsSt) (dir : ByteArray) : Step S (S.syncdir dir) := by
  unfold FsSt.syncdir
  split
  · exact .inl ⟨by simp, rfl⟩
  split
  · exact .inl ⟨by simp, rfl⟩
  · exact .inr ⟨_, rfl, rfl, fun h => h⟩
/-- an operation that answers an error changes nothing that is asked for -/
theorem Step.keep {S : FsSt} {r : Nat × FsSt} (h : Step S r) (he : r.1 ≠ 0) : r.2.filesL = S.filesL ∧ r.2.durL = S.durL ∧ r.2.steps = S.steps := by
  rcases h with ⟨_, h2⟩ | ⟨S2, rfl, _⟩
  · rw [h2]
    exact ⟨rfl, rfl, rfl⟩
  · have ha : S.armed = 1 := by
      unfold FsSt.wrErr at he
      simp only at he
      split at he
      · assumption
      · exact absurd rfl he
    show (S.wrote S2).filesL = _ ∧ (S.wrote S2).durL = _ ∧ (S.wrote S2).steps = _
    unfold FsSt.wrote
    rw [if_pos ha]
    exact ⟨rfl, rfl, rfl⟩
theorem Step.quota {S : FsSt} {r : Nat × FsSt} (h : Step S r) : r.2.quota = S.quota := by
  rcases h with ⟨_, h2⟩ | ⟨S2, rfl, hq, _⟩
  · rw [h2]
  · show (S.wrote S2).quota = _
    unfold FsSt.wrote
    split
    · rfl
    · exact hq
theorem Step.size {S : FsSt} {r : Nat × FsSt} (h : Step S r) (hs : S.size ≤ S.quota) : r.2.size ≤ S.quota := by
  rcases h with ⟨_, h2⟩ | ⟨S2, rfl, _, hz⟩
  · rw [h2]; exact hs
  · show (S.wrote S2).size ≤ _
    unfold FsSt.wrote
    split
    · exact hs
    · exact hz hs
theorem told_step (S : FsSt) (o : OpC) : Step S (S.told o) ∨ ((S.told o).1 = 0 ∧ (S.told o).2.quota = S.quota ∧ (o.kind ≠ 7 → (S.told o).2.size = S.size)) := by
  unfold FsSt.told
  split
  · exact .inl (write_step S _ _)
  split
  · exact .inl (append_step S _ _)
  split
  · exact .inl (sync_step S _)
  split
  · exact .inl (rename_step S _ _)
  split
  · exact .inl (remove_step S _)
  split
  · exact .inl (syncdir_step S _)
  split
  · exact .inr ⟨rfl, rfl, fun _ => rfl⟩
  split
  · rename_i h7
    exact .inr ⟨rfl, (crash_names S o.n o.m).2.2.2.2.2.1, fun h => absurd h7 h⟩
  · exact .inr ⟨rfl, rfl, fun _ => rfl⟩
theorem told_keep (S : FsSt) (o : OpC) (he : (S.told o).1 ≠ 0) : (S.told o).2.filesL = S.filesL ∧ (S.told o).2.durL = S.durL ∧ (S.told o).2.steps = S.steps := by
  rcases told_step S o with h | ⟨h, _⟩
  · exact h.keep he
  · exact absurd h he
theorem told_quota (S : FsSt) (o : OpC) : (S.told o).2.quota = S.quota := by
  rcases told_step S o with h | ⟨_, h, _⟩
  · exact h.quota
  · exact h
theorem told_size (S : FsSt) (o : OpC) (h7 : o.kind ≠ 7) (hs : S.size ≤ S.quota) : (S.told o).2.size ≤ S.quota := by
  rcases told_step S o with h | ⟨_, _, h⟩
  · exact h.size hs
  · rw [h h7]; exact hs
/-! ### armed or not -/
/-- the one that is armed does the same, but at its turn -/
def Lock (S : FsSt) (a : Nat) (r r' : Nat × FsSt) : Prop := (∃ e, r = (e, S) ∧ r' = (e, { S with armed := a }) ∧ e ≠ 0) ∨
  ∃ S2 : FsSt, r = (S.wrErr, S.wrote S2) ∧ r' = (({ S with armed := a } : FsSt).wrErr, ({ S with armed := a } : FsSt).wrote { S2 with armed := a - 1 }) ∧ S2.steps = S.steps ∧ S2.down = S.down ∧ S2.armed = S.armed - 1
theorem write_lock (S : FsSt) (a : Nat) (name : ByteArray) (d : List UInt8) : Lock S a (S.write name d) (({ S with armed := a } : FsSt).write name d) := by
  unfold FsSt.write
  by_cases h1 : S.down = true
  · exact .inl ⟨5, by rw [if_pos h1], by rw [if_pos (show ({ S with armed := a } : FsSt).down = true from h1)], by decide⟩
  rw [if_neg h1, if_neg (show ¬ ({ S with armed := a } : FsSt).down = true from h1)]
  by_cases h2 : validF (toL name) = true
  · rw [if_pos h2, if_pos h2]
    by_cases h3 : S.full (S.more name d.length).1 (S.more name d.length).2 = true
    · exact .inl ⟨4, by rw [if_pos h3], by rw [if_pos (show ({ S with armed := a } : FsSt).full (({ S with armed := a } : FsSt).more name d.length).1 (({ S with armed := a } : FsSt).more name d.length).2 = true from h3)], by decide⟩
    · exact .inr ⟨S.tick.write1 name d (S.more name d.length).1, by rw [if_neg h3], by rw [if_neg (show ¬ ({ S with armed := a } : FsSt).full (({ S with armed := a } : FsSt).more name d.length).1 (({ S with armed := a } : FsSt).more name d.length).2 = true from h3)]; rfl, rfl, rfl, rfl⟩
  · rw [if_neg h2, if_neg h2]
    exact .inl ⟨1, rfl, rfl, by decide⟩
theorem append_lock (S : FsSt) (a : Nat) (name : ByteArray) (d : List UInt8) : Lock S a (S.append name d) (({ S with armed := a } : FsSt).append name d) := by
  have hof : ({ S with armed := a } : FsSt).of name = S.of name := rfl
  unfold FsSt.append
  by_cases h1 : S.down = true
  · exact .inl ⟨5, by rw [if_pos h1], by rw [if_pos (show ({ S with armed := a } : FsSt).down = true from h1)], by decide⟩
  rw [if_neg h1, if_neg (show ¬ ({ S with armed := a } : FsSt).down = true from h1), hof]
  cases S.of name with
  | none => exact .inl ⟨2, rfl, rfl, by decide⟩
  | some i =>
    simp only
    by_cases h3 : S.full d.length 0 = true
    · exact .inl ⟨4, by rw [if_pos h3], by rw [if_pos (show ({ S with armed := a } : FsSt).full d.length 0 = true from h3)], by decide⟩
    · exact .inr ⟨S.tick.append1 i d, by rw [if_neg h3], by rw [if_neg (show ¬ ({ S with armed := a } : FsSt).full d.length 0 = true from h3)]; rfl, rfl, rfl, rfl⟩
theorem sync_lock (S : FsSt) (a : Nat) (name : ByteArray) : Lock S a (S.sync name) (({ S with armed := a } : FsSt).sync name) := by
  have hof : ({ S with armed := a } : FsSt).of name = S.of name := rfl
  unfold FsSt.sync
  by_cases h1 : S.down = true
  · exact .inl ⟨5, by rw [if_pos h1], by rw [if_pos (show ({ S with armed := a } : FsSt).down = true from h1)], by decide⟩
  rw [if_neg h1, if_neg (show ¬ ({ S with armed := a } : FsSt).down = true from h1), hof]
  cases S.of name with
  | none => exact .inl ⟨2, rfl, rfl, by decide⟩
  | some i => exact .inr ⟨S.tick.sync1 i, rfl, rfl, rfl, rfl, rfl⟩
theorem lose_arm (S : FsSt) (a : Nat) (b : ByteArray) : ({ S with armed := a } : FsSt).lose b = { S.lose b with armed := a } := by
  have hof : ({ S with armed := a } : FsSt).of b = S.of b := rfl
  unfold FsSt.lose
  rw [hof]
  cases S.of b <;> rfl
theorem lose_same (S : FsSt) (b : ByteArray) : (S.lose b).steps = S.steps ∧ (S.lose b).down = S.down ∧ (S.lose b).armed = S.armed := by
  unfold FsSt.lose
  cases S.of b <;> exact ⟨rfl, rfl, rfl⟩
theorem rename1_arm (S : FsSt) (a : Nat) (x y : ByteArray) : ({ S with armed := a } : FsSt).rename1 x y = { S.rename1 x y with armed := a } := by
  unfold FsSt.rename1
  by_cases h : x = y
  · rw [if_pos h, if_pos h]
  · rw [if_neg h, if_neg h, lose_arm]
    rfl
theorem rename1_same (S : FsSt) (x y : ByteArray) : (S.rename1 x y).steps = S.steps ∧ (S.rename1 x y).down = S.down ∧ (S.rename1 x y).armed = S.armed := by
  unfold FsSt.rename1
  split
  · exact ⟨rfl, rfl, rfl⟩
  · exact lose_same S y
theorem rename_lock (S : FsSt) (a : Nat) (x y : ByteArray) : Lock S a (S.rename x y) (({ S with armed := a } : FsSt).rename x y) := by
  have hha : ({ S with armed := a } : FsSt).has x = S.has x := rfl
  unfold FsSt.rename
  by_cases h1 : S.down = true
  · exact .inl ⟨5, by rw [if_pos h1], by rw [if_pos (show ({ S with armed := a } : FsSt).down = true from h1)], by decide⟩
  rw [if_neg h1, if_neg (show ¬ ({ S with armed := a } : FsSt).down = true from h1), hha]
  by_cases h2 : S.has x = true
  · rw [if_pos h2, if_pos h2]
    by_cases h3 : validF (toL y) = true
    · rw [if_pos h3, if_pos h3]
      refine .inr ⟨S.tick.rename1 x y, rfl, ?_, (rename1_same S.tick x y).1, (rename1_same S.tick x y).2.1, (rename1_same S.tick x y).2.2⟩
      have h4 : ({ S with armed := a } : FsSt).tick.rename1 x y = { S.tick.rename1 x y with armed := a - 1 } := rename1_arm S.tick (a - 1) x y
      rw [h4]
    · rw [if_neg h3, if_neg h3]
      exact .inl ⟨1, rfl, rfl, by decide⟩
  · rw [if_neg h2, if_neg h2]
    exact .inl ⟨2, rfl, rfl, by decide⟩
theorem remove_lock (S : FsSt) (a : Nat) (x : ByteArray) : Lock S a (S.remove x) (({ S with armed := a } : FsSt).remove x) := by
  have hha : ({ S with armed := a } : FsSt).has x = S.has x := rfl
  unfold FsSt.remove
  by_cases h1 : S.down = true
  · exact .inl ⟨5, by rw [if_pos h1], by rw [if_pos (show ({ S with armed := a } : FsSt).down = true from h1)], by decide⟩
  rw [if_neg h1, if_neg (show ¬ ({ S with armed := a } : FsSt).down = true from h1), hha]
  by_cases h2 : S.has x = true
  · rw [if_pos h2, if_pos h2]
    refine .inr ⟨S.tick.remove1 x, rfl, ?_, (lose_same S.tick x).1, (lose_same S.tick x).2.1, (lose_same S.tick x).2.2⟩
    have h4 : ({ S with armed := a } : FsSt).tick.remove1 x = { S.tick.remove1 x with armed := a - 1 } := by
      unfold FsSt.remove1
      rw [show ({ S with armed := a } : FsSt).tick.lose x = { S.tick.lose x with armed := a - 1 } from lose_arm S.tick (a - 1) x]
      rfl
    rw [h4]
  · rw [if_neg h2, if_neg h2]
    exact .inl ⟨2, rfl, rfl, by decide⟩
theorem syncdir_lock (S : FsSt) (a : Nat) (dir : ByteArray) : Lock S a (S.syncdir dir) (({ S with armed := a } : FsSt).syncdir dir) := by
  unfold FsSt.syncdir
  by_cases h1 : S.down = true
  · exact .inl ⟨5, by rw [if_pos h1], by rw [if_pos (show ({ S with armed := a } : FsSt).down = true from h1)], by decide⟩
  rw [if_neg h1, if_neg (show ¬ ({ S with armed := a } : FsSt).down = true from h1)]
  by_cases h2 : dir.size ≠ 0 ∧ validF (toL dir) = false
  · rw [if_pos h2, if_pos h2]
    exact .inl ⟨1, rfl, rfl, by decide⟩
  · rw [if_neg h2, if_neg h2]
    exact .inr ⟨S.tick.syncdir1 dir, rfl, rfl, rfl, rfl, rfl⟩
theorem told_lock (S : FsSt) (a : Nat) (o : OpC) (hk : o.kind ≤ 5) : Lock S a (S.told o) (({ S with armed := a } : FsSt).told o) ∨ (S.told o = (0, S) ∧ ({ S with armed := a } : FsSt).told o = (0, { S with armed := a })) := by
  unfold FsSt.told
  by_cases h0 : o.kind = 0
  · rw [if_pos h0, if_pos h0]; exact .inl (write_lock S a _ _)
  rw [if_neg h0, if_neg h0]
  by_cases h1 : o.kind = 1
  · rw [if_pos h1, if_pos h1]; exact .inl (append_lock S a _ _)
  rw [if_neg h1, if_neg h1]
  by_cases h2 : o.kind = 2
  · rw [if_pos h2, if_pos h2]; exact .inl (sync_lock S a _)
  rw [if_neg h2, if_neg h2]
  by_cases h3 : o.kind = 3
  · rw [if_pos h3, if_pos h3]; exact .inl (rename_lock S a _ _)
  rw [if_neg h3, if_neg h3]
  by_cases h4 : o.kind = 4
  · rw [if_pos h4, if_pos h4]; exact .inl (remove_lock S a _)
  rw [if_neg h4, if_neg h4]
  by_cases h5 : o.kind = 5
  · rw [if_pos h5, if_pos h5]; exact .inl (syncdir_lock S a _)
  rw [if_neg h5, if_neg h5, if_neg (by omega), if_neg (by omega), if_neg (by omega), if_neg (by omega)]
  exact .inr ⟨rfl, rfl⟩
end Go.Proofs.YtaolddgnannojaaGreatDoor
