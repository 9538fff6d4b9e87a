/-
  A file system that is in order: what each call answers and leaves.
-/
import Derived.Test.YtaolddgnannojaaDoorFsCopy
namespace Go.Proofs.YtaolddgnannojaaDoor
open Go.RowKit Go.Maps

attribute [local go_sem] lt1 lt2 lt3 lt4 lt5 lt6

theorem good_write {K : Nat} {S : FsSt} (h : FsGood K S) {name : ByteArray} (hn : name.size ≤ 1048576) (d : List UInt8) : FsGood (K + 2 + d.length) (S.write name d).2 := by
  unfold FsSt.write
  split
  · exact h.mono (by omega)
  split
  · split
    · exact h.mono (by omega)
    · have hm : -(K : Int) ≤ (S.more name d.length).1 ∧ (S.more name d.length).1 ≤ d.length := by
        unfold FsSt.more
        split
        · rename_i i _
          have := h.inv.lenAt i
          simp only
          omega
        · simp only
          omega
      have h1 := good_write1 h.tick (K' := K + 1 + d.length) hn (n := (S.more name d.length).1) (d := d) hm (Nat.le_refl _)
      have hs := h.inv.steps
      exact h.wrote (h1.mono (by omega)) (by omega) (by show S.steps + 1 ≤ _; omega)
  · exact h.mono (by omega)
theorem good_append {K : Nat} {S : FsSt} (h : FsGood K S) (name : ByteArray) (d : List UInt8) : FsGood (K + 2 + d.length) (S.append name d).2 := by
  unfold FsSt.append
  split
  · exact h.mono (by omega)
  split
  · exact h.mono (by omega)
  · rename_i i hi
    split
    · exact h.mono (by omega)
    · have h1 := good_append1 h.tick (K' := K + 1 + d.length) (i := i) (S.idx_lt hi) (d := d) (Nat.le_refl _)
      have hs := h.inv.steps
      exact h.wrote (h1.mono (by omega)) (by omega) (by show S.steps + 1 ≤ _; omega)
theorem good_sync {K : Nat} {S : FsSt} (h : FsGood K S) (name : ByteArray) : FsGood (K + 2) (S.sync name).2 := by
  unfold FsSt.sync
  split
  · exact h.mono (by omega)
  split
  · exact h.mono (by omega)
  · rename_i i hi
    have hs := h.inv.steps
    exact h.wrote ((good_sync1 h.tick i).mono (by omega)) (by omega) (by show S.steps + 1 ≤ _; omega)
theorem good_rename {K : Nat} {S : FsSt} (h : FsGood K S) {a b : ByteArray} (ha : a.size ≤ 1048576) (hb : b.size ≤ 1048576) : FsGood (K + 2) (S.rename a b).2 := by
  unfold FsSt.rename
  split
  · exact h.mono (by omega)
  split
  · rename_i hh
    split
    · have hs := h.inv.steps
      have h1 := good_rename1 h.tick (K' := K + 1) ha hb hh (Nat.le_refl _)
      exact h.wrote h1 (by omega) (by rw [rename1_steps]; show S.steps + 1 ≤ _; omega)
    · exact h.mono (by omega)
  · exact h.mono (by omega)
theorem good_remove {K : Nat} {S : FsSt} (h : FsGood K S) {a : ByteArray} (ha : a.size ≤ 1048576) : FsGood (K + 2) (S.remove a).2 := by
  unfold FsSt.remove
  split
  · exact h.mono (by omega)
  split
  · have hs := h.inv.steps
    have h1 := good_remove1 h.tick (K' := K + 1) ha (Nat.le_refl _)
    refine h.wrote h1 (by omega) ?_
    have : (S.tick.remove1 a).steps = S.steps := (lose_names S.tick a).2.2
    rw [this]
    omega
  · exact h.mono (by omega)
theorem good_syncdir {K : Nat} {S : FsSt} (h : FsGood K S) (dir : ByteArray) : FsGood (K + 2) (S.syncdir dir).2 := by
  unfold FsSt.syncdir
  split
  · exact h.mono (by omega)
  split
  · exact h.mono (by omega)
  · have hs := h.inv.steps
    have hle := lastN_le S.tick.pend dir S.tick.pend.length
    have hr := h.room
    have h1 := good_settle h.tick (lastN S.tick.pend dir S.tick.pend.length) hle (Nat.le_refl K) (by
      have : S.tick.pend.length = S.pend.length := rfl
      have : Maps.size S.tick.dur = Maps.size S.dur := rfl
      omega)
    exact h.wrote (h1.mono (by omega)) (by omega) (by show S.steps + 1 ≤ _; omega)
structure FsUp (K : Nat) (w : World) (M : FsMem) (S : FsSt) : Prop where
  at_ : FsAt w M S
  good : FsGood K S
  ml : MaxL w
  mg : 0 ∉ M.own
theorem FsUp.mono {K K' : Nat} {w : World} {M : FsMem} {S : FsSt} (h : FsUp K w M S) (hK : K ≤ K') : FsUp K' w M S := ⟨h.at_, h.good.mono hK, h.ml, h.mg⟩
theorem FsUp.below {K : Nat} {w w' : World} {M : FsMem} {S : FsSt} (h : FsUp K w M S) (hb : Below w.heap.size w w') : FsUp K w' M S := ⟨h.at_.below hb, h.good, h.ml.below hb, h.mg⟩
def UpPost (K : Nat) (w : World) (M : FsMem) (S : FsSt) (n : Nat) (e : Ending) (w' : World) : Prop := e = .returned (.int .i64 (n : Nat)) ∧ ∃ M', FsUp K w' M' S ∧ Gr M w M' w'
/-- nothing is answered -/
def UpDone (K : Nat) (w : World) (M : FsMem) (S : FsSt) (e : Ending) (w' : World) : Prop := e = .returned (.tuple #[]) ∧ ∃ M', FsUp K w' M' S ∧ Gr M w M' w'
theorem FsUp.next {K K' : Nat} {w w' : World} {M M' : FsMem} {S S' : FsSt} (h : FsUp K w M S) (hg : Gr M w M' w') (ha : FsAt w' M' S') (hG : FsGood K' S') : FsUp K' w' M' S' :=
  let ⟨h1, h2⟩ := hg.maxL h.ml h.mg
  ⟨ha, hG, h1, h2⟩
theorem FsUp.wr {K K' : Nat} {w : World} {M : FsMem} {S S' : FsSt} {n : Nat} (h : FsUp K w M S) (hG : FsGood K' S') : ∀ (e : Ending) (w' : World), WrPost w M S' n e w' → UpPost K' w M S' n e w' := fun _ _ ⟨he, M', ha, hg⟩ => ⟨he, M', h.next hg ha hG, hg⟩
theorem up_write {K : Nat} {w : World} {M : FsMem} {S : FsSt} (h : FsUp K w M S) (name : ByteArray) (hn : name.size ≤ 1048576) (d : List UInt8) (hK : K + 2 + d.length ≤ 1048576) (A : Option Addr) (c : Nat) (hb : Bs w A c d) (ho : Out M A d) :
    Calls Tryd.prog 11 #[.pointer (some ⟨M.fb, 0, none⟩), .string name, .slice A d.length c] w (UpPost (K + 2 + d.length) w M (S.write name d).2 (S.write name d).1) :=
  (fwrite_any w M S K h.at_ h.good.inv (by omega) h.ml h.mg name hn d A c hb ho (by omega)).mono (h.wr (good_write h.good hn d))
theorem up_append {K : Nat} {w : World} {M : FsMem} {S : FsSt} (h : FsUp K w M S) (name : ByteArray) (hn : name.size ≤ 1048576) (d : List UInt8) (hK : K + 2 + d.length ≤ 1048576) (A : Option Addr) (c : Nat) (hb : Bs w A c d) (ho : Out M A d) :
    Calls Tryd.prog 13 #[.pointer (some ⟨M.fb, 0, none⟩), .string name, .slice A d.length c] w (UpPost (K + 2 + d.length) w M (S.append name d).2 (S.append name d).1) :=
  (fappend_any w M S K h.at_ h.good.inv (by omega) name hn d A c hb ho (by omega)).mono (h.wr (good_append h.good name d))
theorem up_sync {K : Nat} {w : World} {M : FsMem} {S : FsSt} (h : FsUp K w M S) (name : ByteArray) (hn : name.size ≤ 1048576) (hK : K + 2 ≤ 1048576) :
    Calls Tryd.prog 19 #[.pointer (some ⟨M.fb, 0, none⟩), .string name] w (UpPost (K + 2) w M (S.sync name).2 (S.sync name).1) :=
  (fsync_any w M S K h.at_ h.good.inv (by omega) name hn).mono (h.wr (good_sync h.good name))
theorem up_rename {K : Nat} {w : World} {M : FsMem} {S : FsSt} (h : FsUp K w M S) (a b : ByteArray) (ha : a.size ≤ 1048576) (hb : b.size ≤ 1048576) (hK : K + 2 ≤ 1048576) :
    Calls Tryd.prog 23 #[.pointer (some ⟨M.fb, 0, none⟩), .string a, .string b] w (UpPost (K + 2) w M (S.rename a b).2 (S.rename a b).1) :=
  (frename_any w M S K h.at_ h.good.inv (by omega) h.ml a b ha hb).mono (h.wr (good_rename h.good ha hb))
theorem up_remove {K : Nat} {w : World} {M : FsMem} {S : FsSt} (h : FsUp K w M S) (a : ByteArray) (ha : a.size ≤ 1048576) (hK : K + 2 ≤ 1048576) :
    Calls Tryd.prog 56 #[.pointer (some ⟨M.fb, 0, none⟩), .string a] w (UpPost (K + 2) w M (S.remove a).2 (S.remove a).1) :=
  (fremove_any w M S K h.at_ h.good.inv (by omega) a ha).mono (h.wr (good_remove h.good ha))
theorem up_syncdir {K : Nat} {w : World} {M : FsMem} {S : FsSt} (h : FsUp K w M S) (dir : ByteArray) (hd : dir.size ≤ 1048576) (hK : K + 2 ≤ 1048576) :
    Calls Tryd.prog 20 #[.pointer (some ⟨M.fb, 0, none⟩), .string dir] w (UpPost (K + 2) w M (S.syncdir dir).2 (S.syncdir dir).1) :=
  (fsyncdir_any w M S K h.at_ h.good.inv (by omega) (h.good.durRoom (by omega) _) h.ml dir hd).mono (h.wr (good_syncdir h.good dir))
theorem up_arm {K : Nat} {w : World} {M : FsMem} {S : FsSt} (h : FsUp K w M S) (n : Int) (hn : n ≤ 9223372036854775807) :
    Calls Tryd.prog 22 #[.pointer (some ⟨M.fb, 0, none⟩), .int .i64 n] w (UpDone K w M { S with armed := (max n 0).toNat }) :=
  (arm_any w M S h.at_ n hn).mono fun _ _ ⟨he, ha, hf⟩ => ⟨he, M, h.next (Gr.own hf) ha (h.good.arm _ (by omega)), Gr.own hf⟩
theorem up_crash {K : Nat} {w : World} {M : FsMem} {S : FsSt} (h : FsUp K w M S) (hK : K ≤ 1048576) (n m : Int) (hn : n ≤ 9223372036854775807) (hm : m ≤ 9223372036854775807) :
    Calls Tryd.prog 18 #[.pointer (some ⟨M.fb, 0, none⟩), .int .i64 n, .int .i64 m] w (UpDone K w M (S.crash n m)) :=
  (crash_any w M S K h.at_ h.good hK n m hn hm).mono fun _ _ ⟨he, M', ha, hg⟩ => ⟨he, M', h.next hg ha (good_crash h.good n m), hg⟩
/-- another one, all in memory of its own -/
def NewUp (K : Nat) (w : World) (S : FsSt) (e : Ending) (w' : World) : Prop := ∃ M : FsMem, e = .returned (.pointer (some ⟨M.fb, 0, none⟩)) ∧ FsUp K w' M S ∧ Below w.heap.size w w' ∧ ∀ k, k ∈ M.own → w.heap.size ≤ k
theorem MaxL.lt {w : World} (h : MaxL w) : 0 < w.heap.size := by
  obtain ⟨m, hm⟩ := h
  exact World.block_lt_of_cell? w _ hm
theorem up_new (w : World) (hm : MaxL w) (q : Int) : Calls Tryd.prog 10 #[.int .i64 q] w (NewUp 0 w (newS q)) :=
  (new_any w q).mono fun _ _ ⟨M, he, ha, hb, ho⟩ => ⟨M, he, ⟨ha, good_new q, hm.below hb, fun hh => by have := ho _ hh; have := hm.lt; omega⟩, hb, ho⟩
theorem up_copy {K : Nat} {w : World} {M : FsMem} {S : FsSt} (h : FsUp K w M S) (hK : K ≤ 1048576) : Calls Tryd.prog 33 #[.pointer (some ⟨M.fb, 0, none⟩)] w (NewUp K w S) :=
  (copy_any w M S K h.at_ h.good hK).mono fun _ _ ⟨M', he, ha, hb, ho⟩ => ⟨M', he, ⟨ha, h.good, h.ml.below hb, fun hh => by have := ho _ hh; have := h.ml.lt; omega⟩, hb, ho⟩
/-! ### two that lie apart -/
def Apart2 (M M' : FsMem) : Prop := ∀ k, k ∈ M'.own → k ∉ M.own
theorem Apart2.gr {M1 M1' M2 : FsMem} {w w' : World} {S1 S2 : FsSt} {K K1 : Nat} (h : Apart2 M1 M2) (hg : Gr M1 w M1' w') (h1 : FsUp K1 w M1 S1) (h2 : FsUp K w M2 S2) : Apart2 M1' M2 ∧ FsUp K w' M2 S2 := by
  refine ⟨fun k hk hh => ?_, h2.at_.apart (hg.frm h1.at_) h, h2.good, (hg.maxL h1.ml h1.mg).1, h2.mg⟩
  · rcases hg.new k hh with h3 | h3
    · exact h k hk h3
    · have := h2.at_.lt k hk
      omega
theorem Apart2.symm {M1 M2 : FsMem} (h : Apart2 M1 M2) : Apart2 M2 M1 := fun k hk hh => h k hh hk
end Go.Proofs.YtaolddgnannojaaDoor
