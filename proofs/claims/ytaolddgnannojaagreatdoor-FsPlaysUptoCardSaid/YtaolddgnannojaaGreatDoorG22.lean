/-
  A file system that is in order: what each call answers and leaves.
  An operation; what it does, plain.
  first: the chapter's example.
  A slice of operations; Few; made: a file system behind operations.
-/
import Derived.Test.YtaolddgnannojaaGreatDoorFsCopy
import Derived.Lib.SlBytesConst
namespace Go.Proofs.YtaolddgnannojaaGreatDoor
open Go.RowKit Go.Maps

attribute [local go_sem] lt1 lt2 lt3 lt4 lt5 lt6

theorem good_write {K : Nat} {S : FsSt} (h : FsGood K S) {name : ByteArray} (hn : name.size ≤ 1048576) (d : List UInt8) : FsGood (K + 2 + d.length) (S.write name d).2 := by
  unfold FsSt.write
  split
  · exact h.mono (by omega)
  split
  · split
    · exact h.mono (by omega)
    · have hm : -(K : Int) ≤ (S.more name d.length).1 ∧ (S.more name d.length).1 ≤ d.length := by
        unfold FsSt.more
        split
        · rename_i i _
          have := h.inv.lenAt i
          simp only
          omega
        · simp only
          omega
      have h1 := good_write1 h.tick (K' := K + 1 + d.length) hn (n := (S.more name d.length).1) (d := d) hm (Nat.le_refl _)
      have hs := h.inv.steps
      exact h.wrote (h1.mono (by omega)) (by omega) (by show S.steps + 1 ≤ _; omega)
  · exact h.mono (by omega)
theorem good_append {K : Nat} {S : FsSt} (h : FsGood K S) (name : ByteArray) (d : List UInt8) : FsGood (K + 2 + d.length) (S.append name d).2 := by
  unfold FsSt.append
  split
  · exact h.mono (by omega)
  split
  · exact h.mono (by omega)
  · rename_i i hi
    split
    · exact h.mono (by omega)
    · have h1 := good_append1 h.tick (K' := K + 1 + d.length) (i := i) (S.idx_lt hi) (d := d) (Nat.le_refl _)
      have hs := h.inv.steps
      exact h.wrote (h1.mono (by omega)) (by omega) (by show S.steps + 1 ≤ _; omega)
theorem good_sync {K : Nat} {S : FsSt} (h : FsGood K S) (name : ByteArray) : FsGood (K + 2) (S.sync name).2 := by
  unfold FsSt.sync
  split
  · exact h.mono (by omega)
  split
  · exact h.mono (by omega)
  · rename_i i hi
    have hs := h.inv.steps
    exact h.wrote ((good_sync1 h.tick i).mono (by omega)) (by omega) (by show S.steps + 1 ≤ _; omega)
theorem good_rename {K : Nat} {S : FsSt} (h : FsGood K S) {a b : ByteArray} (ha : a.size ≤ 1048576) (hb : b.size ≤ 1048576) : FsGood (K + 2) (S.rename a b).2 := by
  unfold FsSt.rename
  split
  · exact h.mono (by omega)
  split
  · rename_i hh
    split
    · have hs := h.inv.steps
      have h1 := good_rename1 h.tick (K' := K + 1) ha hb hh (Nat.le_refl _)
      exact h.wrote h1 (by omega) (by rw [rename1_steps]; show S.steps + 1 ≤ _; omega)
    · exact h.mono (by omega)
  · exact h.mono (by omega)
theorem good_remove {K : Nat} {S : FsSt} (h : FsGood K S) {a : ByteArray} (ha : a.size ≤ 1048576) : FsGood (K + 2) (S.remove a).2 := by
  unfold FsSt.remove
  split
  · exact h.mono (by omega)
  split
  · have hs := h.inv.steps
    have h1 := good_remove1 h.tick (K' := K + 1) ha (Nat.le_refl _)
    refine h.wrote h1 (by omega) ?_
    have : (S.tick.remove1 a).steps = S.steps := (lose_names S.tick a).2.2
    rw [this]
    omega
  · exact h.mono (by omega)
theorem good_syncdir {K : Nat} {S : FsSt} (h : FsGood K S) (dir : ByteArray) : FsGood (K + 2) (S.syncdir dir).2 := by
  unfold FsSt.syncdir
  split
  · exact h.mono (by omega)
  split
  · exact h.mono (by omega)
  · have hs := h.inv.steps
    have hle := lastN_le S.tick.pend dir S.tick.pend.length
    have hr := h.room
    have h1 := good_settle h.tick (lastN S.tick.pend dir S.tick.pend.length) hle (Nat.le_refl K) (by
      have : S.tick.pend.length = S.pend.length := rfl
      have : Maps.size S.tick.dur = Maps.size S.dur := rfl
      omega)
    exact h.wrote (h1.mono (by omega)) (by omega) (by show S.steps + 1 ≤ _; omega)
structure FsUp (K : Nat) (w : World) (M : FsMem) (S : FsSt) : Prop where
  at_ : FsAt w M S
  good : FsGood K S
  ml : MaxL w
  mg : 0 ∉ M.own
theorem FsUp.mono {K K' : Nat} {w : World} {M : FsMem} {S : FsSt} (h : FsUp K w M S) (hK : K ≤ K') : FsUp K' w M S := ⟨h.at_, h.good.mono hK, h.ml, h.mg⟩
theorem FsUp.below {K : Nat} {w w' : World} {M : FsMem} {S : FsSt} (h : FsUp K w M S) (hb : Below w.heap.size w w') : FsUp K w' M S := ⟨h.at_.below hb, h.good, h.ml.below hb, h.mg⟩
def UpPost (K : Nat) (w : World) (M : FsMem) (S : FsSt) (n : Nat) (e : Ending) (w' : World) : Prop := e = .returned (.int .i64 (n : Nat)) ∧ ∃ M', FsUp K w' M' S ∧ Gr M w M' w'
/-- nothing is answered -/
def UpDone (K : Nat) (w : World) (M : FsMem) (S : FsSt) (e : Ending) (w' : World) : Prop := e = .returned (.tuple #[]) ∧ ∃ M', FsUp K w' M' S ∧ Gr M w M' w'
theorem FsUp.next {K K' : Nat} {w w' : World} {M M' : FsMem} {S S' : FsSt} (h : FsUp K w M S) (hg : Gr M w M' w') (ha : FsAt w' M' S') (hG : FsGood K' S') : FsUp K' w' M' S' :=
  let ⟨h1, h2⟩ := hg.maxL h.ml h.mg
  ⟨ha, hG, h1, h2⟩
theorem FsUp.wr {K K' : Nat} {w : World} {M : FsMem} {S S' : FsSt} {n : Nat} (h : FsUp K w M S) (hG : FsGood K' S') : ∀ (e : Ending) (w' : World), WrPost w M S' n e w' → UpPost K' w M S' n e w' := fun _ _ ⟨he, M', ha, hg⟩ => ⟨he, M', h.next hg ha hG, hg⟩
theorem up_write {K : Nat} {w : World} {M : FsMem} {S : FsSt} (h : FsUp K w M S) (name : ByteArray) (hn : name.size ≤ 1048576) (d : List UInt8) (hK : K + 2 + d.length ≤ 1048576) (A : Option Addr) (c : Nat) (hb : Bs w A c d) (ho : Out M A d) :
    Calls Tryz.prog 9 #[.pointer (some ⟨M.fb, 0, none⟩), .string name, .slice A d.length c] w (UpPost (K + 2 + d.length) w M (S.write name d).2 (S.write name d).1) :=
  (fwrite_any w M S K h.at_ h.good.inv (by omega) h.ml h.mg name hn d A c hb ho (by omega)).mono (h.wr (good_write h.good hn d))
theorem up_append {K : Nat} {w : World} {M : FsMem} {S : FsSt} (h : FsUp K w M S) (name : ByteArray) (hn : name.size ≤ 1048576) (d : List UInt8) (hK : K + 2 + d.length ≤ 1048576) (A : Option Addr) (c : Nat) (hb : Bs w A c d) (ho : Out M A d) :
    Calls Tryz.prog 13 #[.pointer (some ⟨M.fb, 0, none⟩), .string name, .slice A d.length c] w (UpPost (K + 2 + d.length) w M (S.append name d).2 (S.append name d).1) :=
  (fappend_any w M S K h.at_ h.good.inv (by omega) name hn d A c hb ho (by omega)).mono (h.wr (good_append h.good name d))
theorem up_sync {K : Nat} {w : World} {M : FsMem} {S : FsSt} (h : FsUp K w M S) (name : ByteArray) (hn : name.size ≤ 1048576) (hK : K + 2 ≤ 1048576) :
    Calls Tryz.prog 14 #[.pointer (some ⟨M.fb, 0, none⟩), .string name] w (UpPost (K + 2) w M (S.sync name).2 (S.sync name).1) :=
  (fsync_any w M S K h.at_ h.good.inv (by omega) name hn).mono (h.wr (good_sync h.good name))
theorem up_rename {K : Nat} {w : World} {M : FsMem} {S : FsSt} (h : FsUp K w M S) (a b : ByteArray) (ha : a.size ≤ 1048576) (hb : b.size ≤ 1048576) (hK : K + 2 ≤ 1048576) :
    Calls Tryz.prog 35 #[.pointer (some ⟨M.fb, 0, none⟩), .string a, .string b] w (UpPost (K + 2) w M (S.rename a b).2 (S.rename a b).1) :=
  (frename_any w M S K h.at_ h.good.inv (by omega) h.ml a b ha hb).mono (h.wr (good_rename h.good ha hb))
theorem up_remove {K : Nat} {w : World} {M : FsMem} {S : FsSt} (h : FsUp K w M S) (a : ByteArray) (ha : a.size ≤ 1048576) (hK : K + 2 ≤ 1048576) :
    Calls Tryz.prog 37 #[.pointer (some ⟨M.fb, 0, none⟩), .string a] w (UpPost (K + 2) w M (S.remove a).2 (S.remove a).1) :=
  (fremove_any w M S K h.at_ h.good.inv (by omega) a ha).mono (h.wr (good_remove h.good ha))
theorem up_syncdir {K : Nat} {w : World} {M : FsMem} {S : FsSt} (h : FsUp K w M S) (dir : ByteArray) (hd : dir.size ≤ 1048576) (hK : K + 2 ≤ 1048576) :
    Calls Tryz.prog 15 #[.pointer (some ⟨M.fb, 0, none⟩), .string dir] w (UpPost (K + 2) w M (S.syncdir dir).2 (S.syncdir dir).1) :=
  (fsyncdir_any w M S K h.at_ h.good.inv (by omega) (h.good.durRoom (by omega) _) h.ml dir hd).mono (h.wr (good_syncdir h.good dir))
theorem up_arm {K : Nat} {w : World} {M : FsMem} {S : FsSt} (h : FsUp K w M S) (n : Int) (hn : n ≤ 9223372036854775807) :
    Calls Tryz.prog 40 #[.pointer (some ⟨M.fb, 0, none⟩), .int .i64 n] w (UpDone K w M { S with armed := (max n 0).toNat }) :=
  (arm_any w M S h.at_ n hn).mono fun _ _ ⟨he, ha, hf⟩ => ⟨he, M, h.next (Gr.own hf) ha (h.good.arm _ (by omega)), Gr.own hf⟩
theorem up_crash {K : Nat} {w : World} {M : FsMem} {S : FsSt} (h : FsUp K w M S) (hK : K ≤ 1048576) (n m : Int) (hn : n ≤ 9223372036854775807) (hm : m ≤ 9223372036854775807) :
    Calls Tryz.prog 10 #[.pointer (some ⟨M.fb, 0, none⟩), .int .i64 n, .int .i64 m] w (UpDone K w M (S.crash n m)) :=
  (crash_any w M S K h.at_ h.good hK n m hn hm).mono fun _ _ ⟨he, M', ha, hg⟩ => ⟨he, M', h.next hg ha (good_crash h.good n m), hg⟩
/-- another one, all in memory of its own -/
def NewUp (K : Nat) (w : World) (S : FsSt) (e : Ending) (w' : World) : Prop := ∃ M : FsMem, e = .returned (.pointer (some ⟨M.fb, 0, none⟩)) ∧ FsUp K w' M S ∧ Below w.heap.size w w' ∧ ∀ k, k ∈ M.own → w.heap.size ≤ k
theorem MaxL.lt {w : World} (h : MaxL w) : 0 < w.heap.size := by
  obtain ⟨m, hm⟩ := h
  exact World.block_lt_of_cell? w _ hm
theorem up_new (w : World) (hm : MaxL w) (q : Int) : Calls Tryz.prog 6 #[.int .i64 q] w (NewUp 0 w (newS q)) :=
  (new_any w q).mono fun _ _ ⟨M, he, ha, hb, ho⟩ => ⟨M, he, ⟨ha, good_new q, hm.below hb, fun hh => by have := ho _ hh; have := hm.lt; omega⟩, hb, ho⟩
theorem up_copy {K : Nat} {w : World} {M : FsMem} {S : FsSt} (h : FsUp K w M S) (hK : K ≤ 1048576) : Calls Tryz.prog 8 #[.pointer (some ⟨M.fb, 0, none⟩)] w (NewUp K w S) :=
  (copy_any w M S K h.at_ h.good hK).mono fun _ _ ⟨M', he, ha, hb, ho⟩ => ⟨M', he, ⟨ha, h.good, h.ml.below hb, fun hh => by have := ho _ hh; have := h.ml.lt; omega⟩, hb, ho⟩
/-! ### two that lie apart -/
def Apart2 (M M' : FsMem) : Prop := ∀ k, k ∈ M'.own → k ∉ M.own
theorem Apart2.gr {M1 M1' M2 : FsMem} {w w' : World} {S1 S2 : FsSt} {K K1 : Nat} (h : Apart2 M1 M2) (hg : Gr M1 w M1' w') (h1 : FsUp K1 w M1 S1) (h2 : FsUp K w M2 S2) : Apart2 M1' M2 ∧ FsUp K w' M2 S2 := by
  refine ⟨fun k hk hh => ?_, h2.at_.apart (hg.frm h1.at_) h, h2.good, (hg.maxL h1.ml h1.mg).1, h2.mg⟩
  · rcases hg.new k hh with h3 | h3
    · exact h k hk h3
    · have := h2.at_.lt k hk
      omega
theorem Apart2.symm {M1 M2 : FsMem} (h : Apart2 M1 M2) : Apart2 M2 M1 := fun k hk hh => h k hh hk
end Go.Proofs.YtaolddgnannojaaGreatDoor
namespace Go.Proofs.YtaolddgnannojaaGreatDoor
open Go.RowKit Go.Maps

/-- an operation -/
structure OpC where
  kind : Int
  n : Int
  m : Int
  name : ByteArray
  to : ByteArray
  b : List UInt8
structure OpOk (o : OpC) : Prop where
  name : o.name.size ≤ 1048576
  to : o.to.size ≤ 1048576
  b : o.b.length ≤ 1048576
  kind : -9223372036854775808 ≤ o.kind ∧ o.kind ≤ 9223372036854775807
  n : -9223372036854775808 ≤ o.n ∧ o.n ≤ 9223372036854775807
  m : -9223372036854775808 ≤ o.m ∧ o.m ≤ 9223372036854775807
def opCells (o : OpC) (A : Option Addr) (c : Nat) : Array Value := #[.int .i64 o.kind, .int .i64 o.n, .int .i64 o.m, .string o.name, .string o.to, .slice A o.b.length c]
def FsSt.told (S : FsSt) (o : OpC) : Nat × FsSt :=
  if o.kind = 0 then S.write o.name o.b else if o.kind = 1 then S.append o.name o.b else if o.kind = 2 then S.sync o.name else if o.kind = 3 then S.rename o.name o.to
  else if o.kind = 4 then S.remove o.name else if o.kind = 5 then S.syncdir o.name else if o.kind = 6 then (0, { S with armed := (max o.n 0).toNat }) else if o.kind = 7 then (0, S.crash o.n o.m) else (0, S)
theorem UpPost.mono {K K' : Nat} {w : World} {M : FsMem} {S : FsSt} {n : Nat} {e : Ending} {w' : World} (h : UpPost K w M S n e w') (hK : K ≤ K') : UpPost K' w M S n e w' := by
  obtain ⟨he, M', h1, h2⟩ := h
  exact ⟨he, M', h1.mono hK, h2⟩
end Go.Proofs.YtaolddgnannojaaGreatDoor
namespace Go.Proofs.YtaolddgnannojaaGreatDoor
open Go.RowKit Go.Maps

attribute [local go_sem] lt1 lt2 lt3 lt4 lt5 lt6

def fS0 : FsSt := newS 10
def fS1 : FsSt := (fS0.write ⟨#[97]⟩ [97, 98, 99]).2
def fS2 : FsSt := (fS1.write ⟨#[47, 97]⟩ [120]).2
def fS3 : FsSt := (fS2.append ⟨#[98]⟩ [120]).2
def fS4 : FsSt := (fS3.write ⟨#[100, 47, 98]⟩ [49, 50, 51, 52, 53, 54, 55, 56]).2
def fS5 : FsSt := (fS4.sync ⟨#[97]⟩).2
def fS6 : FsSt := (fS5.syncdir ⟨#[]⟩).2
theorem fE1 : (fS0.write ⟨#[97]⟩ [97, 98, 99]).1 = 0 := by kernel_rfl
theorem fE2 : (fS1.write ⟨#[47, 97]⟩ [120]).1 = 1 := by kernel_rfl
theorem fE3 : (fS2.append ⟨#[98]⟩ [120]).1 = 2 := by kernel_rfl
theorem fE4 : (fS3.write ⟨#[100, 47, 98]⟩ [49, 50, 51, 52, 53, 54, 55, 56]).1 = 4 := by kernel_rfl
theorem fE5 : (fS4.sync ⟨#[97]⟩).1 = 0 := by kernel_rfl
theorem fE6 : (fS5.syncdir ⟨#[]⟩).1 = 0 := by kernel_rfl
theorem fK : strKeys fS6.dur = [[97]] := by kernel_rfl
theorem fD6 : durNo fS6.files (nget fS6.dur ⟨#[97]⟩) = [97, 98, 99] := by kernel_rfl
theorem fL : fS6.durL = [(⟨#[97]⟩, [97, 98, 99])] := by
  unfold FsSt.durL keysOf
  rw [fK, List.mergeSort_singleton]
  show [(mkS [97], durNo fS6.files (nget fS6.dur (mkS [97])))] = _
  have : mkS [97] = ⟨#[97]⟩ := rfl
  rw [this, fD6]
theorem Bs_made (w : World) (x : List UInt8) (fr : Nat × Nat) (hl : x.length ≤ maxLen) : Bs (w.alloc (.cells (u8s x).toArray 5 fr)) (some ⟨w.heap.size, 0, none⟩) x.length x := by
  refine ⟨by simp [u8s], by simp, Nat.le_refl _, hl, fun _ => ⟨w.heap.size, 0, rfl, fun j hj => ?_⟩⟩
  have := heap_alloc_new w (.cells (u8s x).toArray 5 fr)
  show (match (w.alloc (.cells (u8s x).toArray 5 fr)).heap[w.heap.size]? with | some (.cells c _ _) => c[0 + j]? | _ => none) = _
  rw [this]
  simp
theorem Out.new {K : Nat} {w : World} {M : FsMem} {S : FsSt} (h : FsUp K w M S) (d : List UInt8) : Out M (some ⟨w.heap.size, 0, none⟩) d := fun _ a ha hh => by
  cases ha
  have := h.at_.lt _ hh
  simp at this
/-- bytes made beside it are written -/
theorem made_write {K : Nat} {w : World} {M : FsMem} {S : FsSt} (h : FsUp K w M S) (name : ByteArray) (hn : name.size ≤ 1048576) (d : List UInt8) (fr : Nat × Nat) (hK : K + 2 + d.length ≤ 1048576) :
    Calls Tryz.prog 9 #[.pointer (some ⟨M.fb, 0, none⟩), .string name, .slice (some ⟨w.heap.size, 0, none⟩) d.length d.length] (w.alloc (.cells (u8s d).toArray 5 fr)) (UpPost (K + 2 + d.length) w M (S.write name d).2 (S.write name d).1) := by
  have hb : Below w.heap.size w (w.alloc (.cells (u8s d).toArray 5 fr)) := (Below.refl _ _).alloc (Nat.le_refl _) _
  refine (up_write (h.below hb) name hn d hK _ _ (Bs_made w d fr (by unfold maxLen; omega)) (Out.new h d)).mono ?_
  rintro e w' ⟨rfl, M', h1, h2⟩
  exact ⟨rfl, M', h1, (Gr.of_below hb).trans h2⟩
theorem made_append {K : Nat} {w : World} {M : FsMem} {S : FsSt} (h : FsUp K w M S) (name : ByteArray) (hn : name.size ≤ 1048576) (d : List UInt8) (fr : Nat × Nat) (hK : K + 2 + d.length ≤ 1048576) :
    Calls Tryz.prog 13 #[.pointer (some ⟨M.fb, 0, none⟩), .string name, .slice (some ⟨w.heap.size, 0, none⟩) d.length d.length] (w.alloc (.cells (u8s d).toArray 5 fr)) (UpPost (K + 2 + d.length) w M (S.append name d).2 (S.append name d).1) := by
  have hb : Below w.heap.size w (w.alloc (.cells (u8s d).toArray 5 fr)) := (Below.refl _ _).alloc (Nat.le_refl _) _
  refine (up_append (h.below hb) name hn d hK _ _ (Bs_made w d fr (by unfold maxLen; omega)) (Out.new h d)).mono ?_
  rintro e w' ⟨rfl, M', h1, h2⟩
  exact ⟨rfl, M', h1, (Gr.of_below hb).trans h2⟩
/-- what a file system made here has turned lies all above -/
theorem Gr.above {M M' : FsMem} {w0 w w' : World} (h : Gr M w M' w') (hb : Below w0.heap.size w0 w) (ho : ∀ k, k ∈ M.own → w0.heap.size ≤ k) : Below w0.heap.size w0 w' ∧ ∀ k, k ∈ M'.own → w0.heap.size ≤ k := by
  have hs := hb.size
  refine ⟨hb.trans (h.fr.below hs ho), fun k hk => ?_⟩
  rcases h.new k hk with h1 | h1
  · exact ho k h1
  · omega
set_option maxHeartbeats 8000000 in
set_option maxRecDepth 10000 in
theorem first_any (w : World) (hm : MaxL w) : Calls Tryz.prog 4 #[] w fun e w' => e = .returned (.bool true) ∧ Below w.heap.size w w' := by
  have HM := Lib.hid hm
  have kc := fun (w : World) (C : Array Value) (n c : Nat) => Lib.run_convert_bytes_const (P := Tryz.prog) w 29 5 C n c Tryz.underlying29 Tryz.underlying5
  clear hm
  go_enter Tryz.func4, Tryz.ntmps4
  go_wp2_with fail
  refine (up_new w HM.out 10).mono ?_
  rintro e w0 ⟨M0, rfl, h0, hb0, ho0⟩
  have H0 := Lib.hid (show FsUp 0 w0 M0 fS0 from h0)
  have HB0 := Lib.hid (And.intro hb0 ho0)
  clear h0 hb0 ho0
  go_wp2_with fail
  refine (made_write H0.out ⟨#[97]⟩ (by decide) [97, 98, 99] (3, 4) (by decide)).mono ?_
  rintro e w1 ⟨rfl, M1, h1, g1⟩
  rw [fE1]
  rw [show M0.fb = M1.fb from g1.fb.symm]
  have HB1 := Lib.hid (g1.above HB0.out.1 HB0.out.2)
  have H1 := Lib.hid (show FsUp _ w1 M1 fS1 from h1)
  clear h1 g1
  go_wp2_with fail
  refine (made_write H1.out ⟨#[47, 97]⟩ (by decide) [120] (1, 2) (by decide)).mono ?_
  rintro e w2 ⟨rfl, M2, h2, g2⟩
  rw [fE2]
  rw [show M1.fb = M2.fb from g2.fb.symm]
  have HB2 := Lib.hid (g2.above HB1.out.1 HB1.out.2)
  have H2 := Lib.hid (show FsUp _ w2 M2 fS2 from h2)
  clear h2 g2
  go_wp2_with fail
  refine (made_append H2.out ⟨#[98]⟩ (by decide) [120] (1, 2) (by decide)).mono ?_
  rintro e w3 ⟨rfl, M3, h3, g3⟩
  rw [fE3]
  rw [show M2.fb = M3.fb from g3.fb.symm]
  have HB3 := Lib.hid (g3.above HB2.out.1 HB2.out.2)
  have H3 := Lib.hid (show FsUp _ w3 M3 fS3 from h3)
  clear h3 g3
  go_wp2_with fail
  refine (made_write H3.out ⟨#[100, 47, 98]⟩ (by decide) [49, 50, 51, 52, 53, 54, 55, 56] (8, 9) (by decide)).mono ?_
  rintro e w4 ⟨rfl, M4, h4, g4⟩
  rw [fE4]
  rw [show M3.fb = M4.fb from g4.fb.symm]
  have HB4 := Lib.hid (g4.above HB3.out.1 HB3.out.2)
  have H4 := Lib.hid (show FsUp _ w4 M4 fS4 from h4)
  clear h4 g4
  go_wp2_with fail
  refine (up_sync H4.out ⟨#[97]⟩ (by decide) (by decide)).mono ?_
  rintro e w5 ⟨rfl, M5, h5, g5⟩
  rw [fE5]
  rw [show M4.fb = M5.fb from g5.fb.symm]
  have HB5 := Lib.hid (g5.above HB4.out.1 HB4.out.2)
  have H5 := Lib.hid (show FsUp _ w5 M5 fS5 from h5)
  clear h5 g5
  go_wp2_with fail
  refine (up_syncdir H5.out ⟨#[]⟩ (by decide) (by decide)).mono ?_
  rintro e w6 ⟨rfl, M6, h6, g6⟩
  rw [fE6]
  rw [show M5.fb = M6.fb from g6.fb.symm]
  have HB6 := Lib.hid (g6.above HB5.out.1 HB5.out.2)
  have H6 := Lib.hid (show FsUp _ w6 M6 fS6 from h6)
  clear h6 g6
  go_wp2_with fail
  refine (durable_any w6 M6 fS6 _ H6.out.at_ H6.out.good (by decide)).mono ?_
  rintro e w7 ⟨v, rfl, hfm, hb7⟩
  rw [fL] at hfm
  obtain ⟨A7, c7, hv, hf7⟩ := hfm.own.files
  subst hv
  obtain ⟨b, o, Ai, ci, hA, d0, d1, hbs⟩ := hf7.at_ (show 0 < 1 by decide)
  subst hA
  have hs := str_of_bs hbs
  have HB7 := Lib.hid (HB6.out.1.trans (hb7.mono HB6.out.1.size))
  clear hf7 hfm hb7
  simp only [List.getD_cons_zero, Nat.zero_mul, Nat.add_zero] at d0 d1 hs
  change (convert 29 9 (.slice Ai 3 ci)).run Tryz.prog w7 = .ok (.string ⟨#[97, 98, 99]⟩) w7 at hs
  change w7.cell? ⟨b, o + 1, none⟩ = some (.slice Ai 3 ci) at d1
  clear hbs
  go_wp2_with fail
  refine (num_any _ _).mono ?_
  rintro e w8 ⟨rfl, rfl⟩
  go_wp2_with fail
  refine (num_any _ _).mono ?_
  rintro e w8 ⟨rfl, rfl⟩
  go_wp2_with fail
  refine (num_any _ _).mono ?_
  rintro e w8 ⟨rfl, rfl⟩
  go_wp2_with fail
  refine (num_any _ _).mono ?_
  rintro e w8 ⟨rfl, rfl⟩
  go_wp2_with fail
  refine (num_any _ _).mono ?_
  rintro e w8 ⟨rfl, rfl⟩
  go_wp2_with fail
  refine (num_any _ _).mono ?_
  rintro e w8 ⟨rfl, rfl⟩
  go_wp2_with fail
  go_ret
  exact ⟨rfl, HB7.out⟩
end Go.Proofs.YtaolddgnannojaaGreatDoor
namespace Go.Proofs.YtaolddgnannojaaGreatDoor
open Go.RowKit Go.Maps

attribute [local go_sem] lt1 lt2 lt3 lt4 lt5 lt6

def noOp : OpC := ⟨0, 0, 0, ⟨#[]⟩, ⟨#[]⟩, []⟩
structure OpIn (w : World) (b o : Nat) (q : OpC) : Prop where
  ok : OpOk q
  cells : ∃ A c, Bs w A c q.b ∧ ∀ j, j < 6 → w.cell? ⟨b, o + j, none⟩ = (opCells q A c)[j]?
theorem OpIn.keep {w w' : World} {b o : Nat} {q : OpC} (h : OpIn w b o q) (hc : Cells w w') : OpIn w' b o q := by
  obtain ⟨A, c, h1, h3⟩ := h.cells
  refine ⟨h.ok, A, c, h1.keep hc, fun j hj => ?_⟩
  have := h3 j hj
  have hs : (opCells q A c)[j]? = some ((opCells q A c)[j]'(by simpa [opCells] using hj)) := Array.getElem?_eq_getElem _
  rw [hs] at this ⊢
  exact hc _ _ this
/-- a slice of operations -/
structure OpAt (w : World) (A : Option Addr) (cap : Nat) (l : List OpC) : Prop where
  nil : A = none → l = [] ∧ cap = 0
  le : l.length ≤ cap
  big : cap ≤ maxLen
  cells : 0 < l.length → ∃ b o, A = some ⟨b, o, none⟩ ∧ ∀ i q, l[i]? = some q → OpIn w b (o + i * 6) q
theorem OpAt.keep {w w' : World} {A : Option Addr} {cap : Nat} {l : List OpC} (h : OpAt w A cap l) (hc : Cells w w') : OpAt w' A cap l :=
  ⟨h.nil, h.le, h.big, fun hp => by
    obtain ⟨b, o, rfl, hx⟩ := h.cells hp
    exact ⟨b, o, rfl, fun i q hi => (hx i q hi).keep hc⟩⟩
theorem OpAt.len {w : World} {A : Option Addr} {cap : Nat} {l : List OpC} (h : OpAt w A cap l) : l.length ≤ 9223372036854775807 := by
  have h1 := h.le; have h2 := h.big; unfold maxLen at h2; omega
/-- an operation out of the slice, its cells as the walk takes them -/
theorem OpAt.at_ {w : World} {A : Option Addr} {cap : Nat} {l : List OpC} (h : OpAt w A cap l) {k : Nat} (hk : k < l.length) : ∃ b o B c, A = some ⟨b, o, none⟩ ∧ OpOk (l.getD k noOp) ∧ Bs w B c (l.getD k noOp).b ∧
    (w.cell? ⟨b, o + k * 6, none⟩ = some (.int .i64 (l.getD k noOp).kind) ∧ w.cell? ⟨b, o + k * 6 + 1, none⟩ = some (.int .i64 (l.getD k noOp).n) ∧ w.cell? ⟨b, o + k * 6 + 2, none⟩ = some (.int .i64 (l.getD k noOp).m)) ∧
    w.cell? ⟨b, o + k * 6 + 3, none⟩ = some (.string (l.getD k noOp).name) ∧ w.cell? ⟨b, o + k * 6 + 4, none⟩ = some (.string (l.getD k noOp).to) ∧ w.cell? ⟨b, o + k * 6 + 5, none⟩ = some (.slice B (l.getD k noOp).b.length c) := by
  obtain ⟨b, o, rfl, hx⟩ := h.cells (by omega)
  have hin := hx k (l.getD k noOp) (by rw [List.getD_eq_getElem?_getD, List.getElem?_eq_getElem hk]; rfl)
  obtain ⟨B, c, h1, h3⟩ := hin.cells
  exact ⟨b, o, B, c, rfl, hin.ok, h1, ⟨h3 0 (by omega), h3 1 (by omega), h3 2 (by omega)⟩, h3 3 (by omega), h3 4 (by omega), h3 5 (by omega)⟩
/-- an operation of the slice, in a world behind -/
theorem OpAt.later {w wr : World} {A : Option Addr} {cap : Nat} {l : List OpC} (h : OpAt w A cap l) (hb : Below w.heap.size w wr) {k : Nat} (hk : k < l.length) : ∃ b o B c, A = some ⟨b, o, none⟩ ∧ OpOk (l.getD k noOp) ∧ Bs w B c (l.getD k noOp).b ∧
    (wr.cell? ⟨b, o + k * 6, none⟩ = some (.int .i64 (l.getD k noOp).kind) ∧ wr.cell? ⟨b, o + k * 6 + 1, none⟩ = some (.int .i64 (l.getD k noOp).n) ∧ wr.cell? ⟨b, o + k * 6 + 2, none⟩ = some (.int .i64 (l.getD k noOp).m)) ∧
    wr.cell? ⟨b, o + k * 6 + 3, none⟩ = some (.string (l.getD k noOp).name) ∧ wr.cell? ⟨b, o + k * 6 + 4, none⟩ = some (.string (l.getD k noOp).to) ∧ wr.cell? ⟨b, o + k * 6 + 5, none⟩ = some (.slice B (l.getD k noOp).b.length c) := by
  obtain ⟨b, o, B, c, h1, h2, h3, ⟨q0, q1, q2⟩, q3, q4, q5⟩ := h.at_ hk
  have hc := Cells.of_below hb
  exact ⟨b, o, B, c, h1, h2, h3, ⟨hc _ _ q0, hc _ _ q1, hc _ _ q2⟩, hc _ _ q3, hc _ _ q4, hc _ _ q5⟩
def FewRel (w : World) (len : Nat) (s i : Value) (wr : World) : Prop := ∃ (acc : Int) (k : Nat), s = .int .i64 acc ∧ 0 ≤ acc ∧ acc ≤ 40000 ∧ i = .int .i64 k ∧ k ≤ len ∧ k ≤ 300 ∧ ∃ n, wr = w.drewN n
def FewPost (w : World) (e : Ending) (w' : World) : Prop := ∃ r : Bool, e = .returned (.bool r) ∧ ∃ n, w' = w.drewN n
set_option maxHeartbeats 4000000 in
set_option maxRecDepth 100000 in
theorem few_any (w : World) (A : Option Addr) (c : Nat) (l : List OpC) (h : OpAt w A c l) : Calls Tryz.prog 5 #[.slice A l.length c] w (FewPost w) := by
  have hl := h.len
  have H := Lib.hid h
  clear h
  go_enter Tryz.func5, Tryz.ntmps5
  go_wp2
  go_loopw [3, 4] (fun s i wr => FewRel w l.length s i wr) (fun _ i _ => l.length - (intOf i).toNat)
  case atStart => exact ⟨0, 0, rfl, by omega, by omega, rfl, by omega, by omega, 0, rfl⟩
  case round =>
    obtain ⟨acc, k, rfl, ha, hb, rfl, hk, hkh, n, rfl⟩ := hrel
    by_cases hgo : k < l.length ∧ k < 300
    · obtain ⟨hlt, hlt2⟩ := hgo
      obtain ⟨b, o, B, cB, rfl, hok, hbs, _, q3, q4, q5⟩ := H.out.at_ hlt
      have e1 := hok.name
      have e2 := hok.to
      have e3 := hok.b
      generalize l.getD k noOp = q at *
      clear hbs
      go_wp2_with fail
      go_quiet (fail)
      go_wp2
      go_roundw
      case rel => exact ⟨_, k + 1, rfl, by omega, by omega, by go_num, by omega, by omega, _, rfl⟩
      case measure => simp [intOf]; omega
    · have hways : ¬ k < l.length ∨ (k < l.length ∧ ¬ k < 300) := by omega
      clear hgo
      rcases hways with hlt | ⟨hlt, hlt2⟩
      all_goals
        go_wp2
      all_goals
        go_ret
        exact ⟨_, rfl, _, rfl⟩
/-- what the operations may add -/
def wt (l : List OpC) : Nat := (l.map fun o => 2 + o.b.length).sum
theorem wt_take {l : List OpC} {k : Nat} (h : k < l.length) : wt (l.take (k + 1)) = wt (l.take k) + (2 + (l.getD k noOp).b.length) := by
  have hg : l.getD k noOp = l[k] := by simp [List.getD_eq_getElem?_getD, h]
  rw [hg]
  unfold wt
  rw [List.take_succ_eq_append_getElem h, List.map_append, List.sum_append]
  simp only [List.map_cons, List.map_nil, List.sum_cons, List.sum_nil, Nat.add_zero]
theorem wt_le (l : List OpC) (k : Nat) : wt (l.take k) ≤ wt l := by
  unfold wt
  conv => rhs; rw [← List.take_append_drop k l]
  rw [List.map_append, List.sum_append]
  omega
/-- told all of them -/
def FsSt.tells (S : FsSt) (l : List OpC) : FsSt := l.foldl (fun S o => (S.told o).2) S
theorem tells_take {S : FsSt} {l : List OpC} {k : Nat} (h : k < l.length) : S.tells (l.take (k + 1)) = ((S.tells (l.take k)).told (l.getD k noOp)).2 := by
  unfold FsSt.tells
  rw [List.take_succ_eq_append_getElem h, List.foldl_append]
  simp [List.getD_eq_getElem?_getD, h]
/-- a file system in order, all above a world -/
structure Held (K : Nat) (w0 w : World) (M : FsMem) (S : FsSt) : Prop where
  up : FsUp K w M S
  below : Below w0.heap.size w0 w
  own : ∀ k, k ∈ M.own → w0.heap.size ≤ k
theorem Held.out {K : Nat} {w0 w : World} {M : FsMem} {S : FsSt} (h : Held K w0 w M S) {A : Option Addr} {c : Nat} {d : List UInt8} (hb : Bs w0 A c d) : Out M A d := fun hn a ha hh => by
  obtain ⟨b, o, hA, hc⟩ := hb.cells hn
  rw [ha] at hA
  cases hA
  have h1 := World.block_lt_of_cell? w0 ⟨b, o + 0, none⟩ ((hc 0 (by omega)).trans (u8s_at hn))
  have h2 := h.own _ hh
  simp only at h1 h2
  omega
theorem Held.bs {K : Nat} {w0 w : World} {M : FsMem} {S : FsSt} (h : Held K w0 w M S) {A : Option Addr} {c : Nat} {d : List UInt8} (hb : Bs w0 A c d) : Bs w A c d := hb.keep (Cells.of_below h.below)
theorem Held.next {K K' : Nat} {w0 w w' : World} {M M' : FsMem} {S S' : FsSt} (h : Held K w0 w M S) (hu : FsUp K' w' M' S') (hg : Gr M w M' w') : Held K' w0 w' M' S' :=
  let ⟨h1, h2⟩ := hg.above h.below h.own
  ⟨hu, h1, h2⟩
theorem Held.low {K : Nat} {w0 w w' : World} {M : FsMem} {S : FsSt} (h : Held K w0 w M S) (hb : Below w.heap.size w w') : Held K w0 w' M S := ⟨h.up.below hb, h.below.trans (hb.mono h.below.size), h.own⟩
theorem Held.mono {K K' : Nat} {w0 w : World} {M : FsMem} {S : FsSt} (h : Held K w0 w M S) (hK : K ≤ K') : Held K' w0 w M S := ⟨h.up.mono hK, h.below, h.own⟩
/-- it is told an operation that lies in the slice -/
def ToldPost (K : Nat) (w0 w : World) (M : FsMem) (S : FsSt) (n : Nat) (e : Ending) (w' : World) : Prop := e = .returned (.int .i64 (n : Nat)) ∧ ∃ M', Held K w0 w' M' S ∧ Gr M w M' w'
end Go.Proofs.YtaolddgnannojaaGreatDoor
