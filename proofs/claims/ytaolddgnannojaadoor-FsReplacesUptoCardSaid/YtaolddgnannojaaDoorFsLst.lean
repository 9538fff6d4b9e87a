/-
  Lists of files that stay as they were; file systems side by side.
-/
import Derived.Test.YtaolddgnannojaaDoorFsMade
namespace Go.Proofs.YtaolddgnannojaaDoor
open Go.RowKit Go.Maps

/-- the blocks from lo on that a world had are as they were -/
structure Kept (lo : Nat) (wc w : World) : Prop where
  size : wc.heap.size ≤ w.heap.size
  same : ∀ k, lo ≤ k → k < wc.heap.size → w.heap[k]? = wc.heap[k]?
theorem Kept.refl (lo : Nat) (w : World) : Kept lo w w := ⟨Nat.le_refl _, fun _ _ _ => rfl⟩
theorem Kept.below {lo : Nat} {wc w w' : World} (h : Kept lo wc w) (hb : Below w.heap.size w w') : Kept lo wc w' :=
  ⟨Nat.le_trans h.size hb.size, fun k h1 h2 => (hb.block k (Nat.lt_of_lt_of_le h2 h.size)).trans (h.same k h1 h2)⟩
/-- a file system holds none of the blocks between -/
def Off (M : FsMem) (lo hi : Nat) : Prop := ∀ k, k ∈ M.own → k < lo ∨ hi ≤ k
theorem Kept.gr {lo : Nat} {wc w w' : World} {M M' : FsMem} (h : Kept lo wc w) (ho : Off M lo wc.heap.size) (hg : Gr M w M' w') : Kept lo wc w' ∧ Off M' lo wc.heap.size := by
  have hs := h.size
  refine ⟨⟨Nat.le_trans hs hg.fr.size, fun k h1 h2 => (hg.fr.block k (Nat.lt_of_lt_of_le h2 hs) fun hh => ?_).trans (h.same k h1 h2)⟩, fun k hk => ?_⟩
  · rcases ho k hh with h3 | h3 <;> omega
  · rcases hg.new k hk with h3 | h3
    · exact ho k h3
    · exact .inr (by omega)
theorem CFm.kept {lo : Nat} {wc w : World} {c : List Value} {p : Fl} (h : CFm wc lo c p) (hk : Kept lo wc w) : CFm w lo c p := by
  obtain ⟨g, h1, h2, h3, h4⟩ := h
  exact ⟨g, h1, h2, h3, (hk.same g h2 (lt_of_heap h4)).trans h4⟩
theorem FlM.kept {lo : Nat} {wc w : World} {v : Value} {l : List Fl} (h : FlM wc lo v l) (hk : Kept lo wc w) : FlM w lo v l := by
  obtain ⟨cs, h1, h2⟩ := h
  refine ⟨cs, h1.mono fun _ _ h => h.kept hk, h2.1, ?_⟩
  rcases h2.2 with hn | ⟨g, cap, cur, rfl, hb, hg, rest⟩
  · exact .inl hn
  · exact .inr ⟨g, cap, cur, rfl, hb, (hk.same g hb (lt_of_heap hg)).trans hg, rest⟩
/-- a list that a call has made, and what has become of it -/
structure Lst (lo hi : Nat) (w : World) (A : Option Addr) (c : Nat) (L : List Fl) : Prop where
  kept : ∃ wc, wc.heap.size = hi ∧ Kept lo wc w ∧ FlM wc lo (.slice A L.length c) L
theorem Lst.at_ {lo hi : Nat} {w : World} {A : Option Addr} {c : Nat} {L : List Fl} (h : Lst lo hi w A c L) : FlAt w A c L := by
  obtain ⟨wc, _, hk, hm⟩ := h.kept
  obtain ⟨A2, c2, h1, h2⟩ := (hm.kept hk).own.files
  simp only [Value.slice.injEq, true_and] at h1
  obtain ⟨rfl, rfl⟩ := h1
  exact h2
theorem Lst.below {lo hi : Nat} {w w' : World} {A : Option Addr} {c : Nat} {L : List Fl} (h : Lst lo hi w A c L) (hb : Below w.heap.size w w') : Lst lo hi w' A c L := by
  obtain ⟨wc, h1, hk, hm⟩ := h.kept
  exact ⟨wc, h1, hk.below hb, hm⟩
theorem Lst.gr {lo hi : Nat} {w w' : World} {A : Option Addr} {c : Nat} {L : List Fl} {M M' : FsMem} (h : Lst lo hi w A c L) (ho : Off M lo hi) (hg : Gr M w M' w') : Lst lo hi w' A c L ∧ Off M' lo hi := by
  obtain ⟨wc, rfl, hk, hm⟩ := h.kept
  obtain ⟨h1, h2⟩ := hk.gr ho hg
  exact ⟨⟨wc, rfl, h1, hm⟩, h2⟩
theorem Lst.size {lo hi : Nat} {w : World} {A : Option Addr} {c : Nat} {L : List Fl} (h : Lst lo hi w A c L) : hi ≤ w.heap.size := by
  obtain ⟨wc, rfl, hk, _⟩ := h.kept
  exact hk.size
/-- what a file system holds lies below what is made now -/
theorem FsAt.off {w : World} {M : FsMem} {S : FsSt} (h : FsAt w M S) (hi : Nat) : Off M w.heap.size hi := fun k hk => .inl (h.lt k hk)
/-- what is made now lies above -/
theorem Off.above {M : FsMem} {lo hi n : Nat} (h : ∀ k, k ∈ M.own → n ≤ k) (hn : hi ≤ n) : Off M lo hi := fun k hk => .inr (Nat.le_trans hn (h k hk))
/-- a file list is answered -/
def LstPost (w : World) (L : List Fl) (e : Ending) (w' : World) : Prop := ∃ A c, e = .returned (.slice A L.length c) ∧ Lst w.heap.size w'.heap.size w' A c L ∧ Below w.heap.size w w'
theorem FilesPost.lst {w w' : World} {L : List Fl} {e : Ending} (h : FilesPost w L e w') : LstPost w L e w' := by
  obtain ⟨v, rfl, hm, hb⟩ := h
  obtain ⟨A, c, rfl, _⟩ := hm.own.files
  exact ⟨A, c, rfl, ⟨w', rfl, Kept.refl _ _, hm⟩, hb⟩
theorem Held.files {K : Nat} {w0 w : World} {M : FsMem} {S : FsSt} (h : Held K w0 w M S) (hK : K ≤ 1048576) : Calls Tryd.prog 26 #[.pointer (some ⟨M.fb, 0, none⟩)] w (LstPost w S.filesL) :=
  (files_any w M S K h.up.at_ h.up.good hK).mono fun _ _ h => h.lst
theorem Held.durable {K : Nat} {w0 w : World} {M : FsMem} {S : FsSt} (h : Held K w0 w M S) (hK : K ≤ 1048576) : Calls Tryd.prog 27 #[.pointer (some ⟨M.fb, 0, none⟩)] w (LstPost w S.durL) :=
  (durable_any w M S K h.up.at_ h.up.good hK).mono fun _ _ h => h.lst
/-- SameFiles of two lists -/
def SmPost (w : World) (b : Bool) (e : Ending) (w' : World) : Prop := e = .returned (.bool b) ∧ Below w.heap.size w w'
theorem Lst.same {lo hi lo' hi' : Nat} {w : World} {A A' : Option Addr} {c c' : Nat} {L L' : List Fl} (h : Lst lo hi w A c L) (h' : Lst lo' hi' w A' c' L') :
    Calls Tryd.prog 30 #[.slice A L.length c, .slice A' L'.length c'] w (SmPost w (decide (L = L'))) :=
  (samef_any L L' A A' c c' w h.at_ h'.at_).mono fun _ _ ⟨he, n, hw⟩ => ⟨he, by rw [hw]; exact ⟨rfl, rfl, rfl, Nat.le_refl _, fun _ _ => rfl⟩⟩
theorem Lst.sameT {lo hi lo' hi' : Nat} {w : World} {A A' : Option Addr} {c c' : Nat} {L : List Fl} (h : Lst lo hi w A c L) (h' : Lst lo' hi' w A' c' L) :
    Calls Tryd.prog 30 #[.slice A L.length c, .slice A' L.length c'] w (SmPost w true) :=
  (h.same h').mono fun _ _ ⟨he, hw⟩ => ⟨by rw [he]; simp, hw⟩
/-! ### side by side -/
theorem Held.aside {K1 K2 : Nat} {w0 w w' : World} {M1 M2 M2' : FsMem} {S1 S2 : FsSt} (h1 : Held K1 w0 w M1 S1) (h2 : Held K2 w0 w M2 S2) (ha : Apart2 M1 M2) (hg : Gr M2 w M2' w') : Held K1 w0 w' M1 S1 ∧ Apart2 M1 M2' := by
  obtain ⟨h3, h4⟩ := ha.symm.gr hg h2.up h1.up
  exact ⟨⟨h4, (hg.above h2.below h2.own).1, h1.own⟩, h3.symm⟩
/-- one more is made -/
def BesPost (K1 K : Nat) (w0 w : World) (M1 : FsMem) (S1 S : FsSt) (e : Ending) (w' : World) : Prop := ∃ M : FsMem, e = .returned (.pointer (some ⟨M.fb, 0, none⟩)) ∧ Held K w0 w' M S ∧ Held K1 w0 w' M1 S1 ∧ Apart2 M1 M ∧ Below w.heap.size w w' ∧ ∀ k, k ∈ M.own → w.heap.size ≤ k
theorem Held.beside {K1 K : Nat} {w0 w w' : World} {M1 : FsMem} {S1 S : FsSt} (h1 : Held K1 w0 w M1 S1) {e : Ending} (hn : NewUp K w S e w') : BesPost K1 K w0 w M1 S1 S e w' := by
  obtain ⟨M, he, hu, hb, ho⟩ := hn
  refine ⟨M, he, ⟨hu, h1.below.trans (hb.mono h1.below.size), fun k hk => Nat.le_trans h1.below.size (ho k hk)⟩, h1.low hb, fun k hk hh => ?_, hb, ho⟩
  have := ho k hk
  have := h1.up.at_.lt k hh
  omega
theorem Held.copy {K : Nat} {w0 w : World} {M : FsMem} {S : FsSt} (h : Held K w0 w M S) (hK : K ≤ 1048576) : Calls Tryd.prog 33 #[.pointer (some ⟨M.fb, 0, none⟩)] w (BesPost K K w0 w M S S) :=
  (up_copy h.up hK).mono fun _ _ hn => h.beside hn
/-- nothing is answered -/
def DonePost (K : Nat) (w0 w : World) (M : FsMem) (S : FsSt) (e : Ending) (w' : World) : Prop := e = .returned (.tuple #[]) ∧ ∃ M', Held K w0 w' M' S ∧ Gr M w M' w'
theorem Held.crash {K : Nat} {w0 w : World} {M : FsMem} {S : FsSt} (h : Held K w0 w M S) (hK : K ≤ 1048576) (n m : Int) (hn : n ≤ 9223372036854775807) (hm : m ≤ 9223372036854775807) :
    Calls Tryd.prog 18 #[.pointer (some ⟨M.fb, 0, none⟩), .int .i64 n, .int .i64 m] w (DonePost K w0 w M (S.crash n m)) :=
  (up_crash h.up hK n m hn hm).mono fun _ _ ⟨he, M', h1, h2⟩ => ⟨he, M', h.next h1 h2, h2⟩
theorem Held.arm {K : Nat} {w0 w : World} {M : FsMem} {S : FsSt} (h : Held K w0 w M S) (n : Int) (hn : n ≤ 9223372036854775807) :
    Calls Tryd.prog 22 #[.pointer (some ⟨M.fb, 0, none⟩), .int .i64 n] w (DonePost K w0 w M { S with armed := (max n 0).toNat }) :=
  (up_arm h.up n hn).mono fun _ _ ⟨he, M', h1, h2⟩ => ⟨he, M', h.next h1 h2, h2⟩
end Go.Proofs.YtaolddgnannojaaDoor
