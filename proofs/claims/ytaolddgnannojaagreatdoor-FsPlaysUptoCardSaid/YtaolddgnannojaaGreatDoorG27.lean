/-
  Lists of files that stay as they were; file systems side by side.
  The reference's rows of names in memory: at, without.
-/
import Derived.Test.YtaolddgnannojaaGreatDoorG22
import Derived.Test.YtaolddgnannojaaGreatDoorG26
namespace Go.Proofs.YtaolddgnannojaaGreatDoor
open Go.RowKit Go.Maps

/-- the blocks from lo on that a world had are as they were -/
structure Kept (lo : Nat) (wc w : World) : Prop where
  size : wc.heap.size ≤ w.heap.size
  same : ∀ k, lo ≤ k → k < wc.heap.size → w.heap[k]? = wc.heap[k]?
theorem Kept.refl (lo : Nat) (w : World) : Kept lo w w := ⟨Nat.le_refl _, fun _ _ _ => rfl⟩
theorem Kept.below {lo : Nat} {wc w w' : World} (h : Kept lo wc w) (hb : Below w.heap.size w w') : Kept lo wc w' :=
  ⟨Nat.le_trans h.size hb.size, fun k h1 h2 => (hb.block k (Nat.lt_of_lt_of_le h2 h.size)).trans (h.same k h1 h2)⟩
/-- a file system holds none of the blocks between -/
def Off (M : FsMem) (lo hi : Nat) : Prop := ∀ k, k ∈ M.own → k < lo ∨ hi ≤ k
theorem Kept.gr {lo : Nat} {wc w w' : World} {M M' : FsMem} (h : Kept lo wc w) (ho : Off M lo wc.heap.size) (hg : Gr M w M' w') : Kept lo wc w' ∧ Off M' lo wc.heap.size := by
  have hs := h.size
  refine ⟨⟨Nat.le_trans hs hg.fr.size, fun k h1 h2 => (hg.fr.block k (Nat.lt_of_lt_of_le h2 hs) fun hh => ?_).trans (h.same k h1 h2)⟩, fun k hk => ?_⟩
  · rcases ho k hh with h3 | h3 <;> omega
  · rcases hg.new k hk with h3 | h3
    · exact ho k h3
    · exact .inr (by omega)
theorem CFm.kept {lo : Nat} {wc w : World} {c : List Value} {p : Fl} (h : CFm wc lo c p) (hk : Kept lo wc w) : CFm w lo c p := by
  obtain ⟨g, h1, h2, h3, h4⟩ := h
  exact ⟨g, h1, h2, h3, (hk.same g h2 (lt_of_heap h4)).trans h4⟩
theorem FlM.kept {lo : Nat} {wc w : World} {v : Value} {l : List Fl} (h : FlM wc lo v l) (hk : Kept lo wc w) : FlM w lo v l := by
  obtain ⟨cs, h1, h2⟩ := h
  refine ⟨cs, h1.mono fun _ _ h => h.kept hk, h2.1, ?_⟩
  rcases h2.2 with hn | ⟨g, cap, cur, rfl, hb, hg, rest⟩
  · exact .inl hn
  · exact .inr ⟨g, cap, cur, rfl, hb, (hk.same g hb (lt_of_heap hg)).trans hg, rest⟩
/-- a list that a call has made, and what has become of it -/
structure Lst (lo hi : Nat) (w : World) (A : Option Addr) (c : Nat) (L : List Fl) : Prop where
  kept : ∃ wc, wc.heap.size = hi ∧ Kept lo wc w ∧ FlM wc lo (.slice A L.length c) L
theorem Lst.at_ {lo hi : Nat} {w : World} {A : Option Addr} {c : Nat} {L : List Fl} (h : Lst lo hi w A c L) : FlAt w A c L := by
  obtain ⟨wc, _, hk, hm⟩ := h.kept
  obtain ⟨A2, c2, h1, h2⟩ := (hm.kept hk).own.files
  simp only [Value.slice.injEq, true_and] at h1
  obtain ⟨rfl, rfl⟩ := h1
  exact h2
theorem Lst.below {lo hi : Nat} {w w' : World} {A : Option Addr} {c : Nat} {L : List Fl} (h : Lst lo hi w A c L) (hb : Below w.heap.size w w') : Lst lo hi w' A c L := by
  obtain ⟨wc, h1, hk, hm⟩ := h.kept
  exact ⟨wc, h1, hk.below hb, hm⟩
theorem Lst.gr {lo hi : Nat} {w w' : World} {A : Option Addr} {c : Nat} {L : List Fl} {M M' : FsMem} (h : Lst lo hi w A c L) (ho : Off M lo hi) (hg : Gr M w M' w') : Lst lo hi w' A c L ∧ Off M' lo hi := by
  obtain ⟨wc, rfl, hk, hm⟩ := h.kept
  obtain ⟨h1, h2⟩ := hk.gr ho hg
  exact ⟨⟨wc, rfl, h1, hm⟩, h2⟩
theorem Lst.size {lo hi : Nat} {w : World} {A : Option Addr} {c : Nat} {L : List Fl} (h : Lst lo hi w A c L) : hi ≤ w.heap.size := by
  obtain ⟨wc, rfl, hk, _⟩ := h.kept
  exact hk.size
/-- what a file system holds lies below what is made now -/
theorem FsAt.off {w : World} {M : FsMem} {S : FsSt} (h : FsAt w M S) (hi : Nat) : Off M w.heap.size hi := fun k hk => .inl (h.lt k hk)
/-- what is made now lies above -/
theorem Off.above {M : FsMem} {lo hi n : Nat} (h : ∀ k, k ∈ M.own → n ≤ k) (hn : hi ≤ n) : Off M lo hi := fun k hk => .inr (Nat.le_trans hn (h k hk))
/-- a file list is answered -/
def LstPost (w : World) (L : List Fl) (e : Ending) (w' : World) : Prop := ∃ A c, e = .returned (.slice A L.length c) ∧ Lst w.heap.size w'.heap.size w' A c L ∧ Below w.heap.size w w'
theorem FilesPost.lst {w w' : World} {L : List Fl} {e : Ending} (h : FilesPost w L e w') : LstPost w L e w' := by
  obtain ⟨v, rfl, hm, hb⟩ := h
  obtain ⟨A, c, rfl, _⟩ := hm.own.files
  exact ⟨A, c, rfl, ⟨w', rfl, Kept.refl _ _, hm⟩, hb⟩
theorem Held.files {K : Nat} {w0 w : World} {M : FsMem} {S : FsSt} (h : Held K w0 w M S) (hK : K ≤ 1048576) : Calls Tryz.prog 51 #[.pointer (some ⟨M.fb, 0, none⟩)] w (LstPost w S.filesL) :=
  (files_any w M S K h.up.at_ h.up.good hK).mono fun _ _ h => h.lst
theorem Held.durable {K : Nat} {w0 w : World} {M : FsMem} {S : FsSt} (h : Held K w0 w M S) (hK : K ≤ 1048576) : Calls Tryz.prog 16 #[.pointer (some ⟨M.fb, 0, none⟩)] w (LstPost w S.durL) :=
  (durable_any w M S K h.up.at_ h.up.good hK).mono fun _ _ h => h.lst
/-- SameFiles of two lists -/
def SmPost (w : World) (b : Bool) (e : Ending) (w' : World) : Prop := e = .returned (.bool b) ∧ Below w.heap.size w w'
theorem Lst.same {lo hi lo' hi' : Nat} {w : World} {A A' : Option Addr} {c c' : Nat} {L L' : List Fl} (h : Lst lo hi w A c L) (h' : Lst lo' hi' w A' c' L') :
    Calls Tryz.prog 52 #[.slice A L.length c, .slice A' L'.length c'] w (SmPost w (decide (L = L'))) :=
  (samef_any L L' A A' c c' w h.at_ h'.at_).mono fun _ _ ⟨he, n, hw⟩ => ⟨he, by rw [hw]; exact ⟨rfl, rfl, rfl, Nat.le_refl _, fun _ _ => rfl⟩⟩
theorem Lst.sameT {lo hi lo' hi' : Nat} {w : World} {A A' : Option Addr} {c c' : Nat} {L : List Fl} (h : Lst lo hi w A c L) (h' : Lst lo' hi' w A' c' L) :
    Calls Tryz.prog 52 #[.slice A L.length c, .slice A' L.length c'] w (SmPost w true) :=
  (h.same h').mono fun _ _ ⟨he, hw⟩ => ⟨by rw [he]; simp, hw⟩
/-! ### side by side -/
theorem Held.aside {K1 K2 : Nat} {w0 w w' : World} {M1 M2 M2' : FsMem} {S1 S2 : FsSt} (h1 : Held K1 w0 w M1 S1) (h2 : Held K2 w0 w M2 S2) (ha : Apart2 M1 M2) (hg : Gr M2 w M2' w') : Held K1 w0 w' M1 S1 ∧ Apart2 M1 M2' := by
  obtain ⟨h3, h4⟩ := ha.symm.gr hg h2.up h1.up
  exact ⟨⟨h4, (hg.above h2.below h2.own).1, h1.own⟩, h3.symm⟩
/-- one more is made -/
def BesPost (K1 K : Nat) (w0 w : World) (M1 : FsMem) (S1 S : FsSt) (e : Ending) (w' : World) : Prop := ∃ M : FsMem, e = .returned (.pointer (some ⟨M.fb, 0, none⟩)) ∧ Held K w0 w' M S ∧ Held K1 w0 w' M1 S1 ∧ Apart2 M1 M ∧ Below w.heap.size w w' ∧ ∀ k, k ∈ M.own → w.heap.size ≤ k
theorem Held.beside {K1 K : Nat} {w0 w w' : World} {M1 : FsMem} {S1 S : FsSt} (h1 : Held K1 w0 w M1 S1) {e : Ending} (hn : NewUp K w S e w') : BesPost K1 K w0 w M1 S1 S e w' := by
  obtain ⟨M, he, hu, hb, ho⟩ := hn
  refine ⟨M, he, ⟨hu, h1.below.trans (hb.mono h1.below.size), fun k hk => Nat.le_trans h1.below.size (ho k hk)⟩, h1.low hb, fun k hk hh => ?_, hb, ho⟩
  have := ho k hk
  have := h1.up.at_.lt k hh
  omega
theorem Held.copy {K : Nat} {w0 w : World} {M : FsMem} {S : FsSt} (h : Held K w0 w M S) (hK : K ≤ 1048576) : Calls Tryz.prog 8 #[.pointer (some ⟨M.fb, 0, none⟩)] w (BesPost K K w0 w M S S) :=
  (up_copy h.up hK).mono fun _ _ hn => h.beside hn
/-- nothing is answered -/
def DonePost (K : Nat) (w0 w : World) (M : FsMem) (S : FsSt) (e : Ending) (w' : World) : Prop := e = .returned (.tuple #[]) ∧ ∃ M', Held K w0 w' M' S ∧ Gr M w M' w'
theorem Held.crash {K : Nat} {w0 w : World} {M : FsMem} {S : FsSt} (h : Held K w0 w M S) (hK : K ≤ 1048576) (n m : Int) (hn : n ≤ 9223372036854775807) (hm : m ≤ 9223372036854775807) :
    Calls Tryz.prog 10 #[.pointer (some ⟨M.fb, 0, none⟩), .int .i64 n, .int .i64 m] w (DonePost K w0 w M (S.crash n m)) :=
  (up_crash h.up hK n m hn hm).mono fun _ _ ⟨he, M', h1, h2⟩ => ⟨he, M', h.next h1 h2, h2⟩
theorem Held.arm {K : Nat} {w0 w : World} {M : FsMem} {S : FsSt} (h : Held K w0 w M S) (n : Int) (hn : n ≤ 9223372036854775807) :
    Calls Tryz.prog 40 #[.pointer (some ⟨M.fb, 0, none⟩), .int .i64 n] w (DonePost K w0 w M { S with armed := (max n 0).toNat }) :=
  (up_arm h.up n hn).mono fun _ _ ⟨he, M', h1, h2⟩ => ⟨he, M', h.next h1 h2, h2⟩
theorem Lst.sameE {lo hi lo' hi' : Nat} {w : World} {A A' : Option Addr} {c c' : Nat} {L L' : List Fl} (h : Lst lo hi w A c L) (h' : Lst lo' hi' w A' c' L') (he : L = L') :
    Calls Tryz.prog 52 #[.slice A L.length c, .slice A' L'.length c'] w (SmPost w true) :=
  (h.same h').mono fun _ _ ⟨h1, hw⟩ => ⟨by rw [h1, he]; simp, hw⟩
theorem OpAt.low {w w' : World} {A : Option Addr} {cap : Nat} {l : List OpC} (h : OpAt w A cap l) (hb : Below w.heap.size w w') : OpAt w' A cap l := h.keep (Cells.of_below hb)
def FewB (w : World) (e : Ending) (w' : World) : Prop := ∃ r : Bool, e = .returned (.bool r) ∧ Below w.heap.size w w'
theorem few_low (w : World) (A : Option Addr) (c : Nat) (l : List OpC) (h : OpAt w A c l) : Calls Tryz.prog 5 #[.slice A l.length c] w (FewB w) :=
  (few_any w A c l h).mono fun _ _ ⟨r, he, n, hw⟩ => ⟨r, he, by rw [hw]; exact ⟨rfl, rfl, rfl, Nat.le_refl _, fun _ _ => rfl⟩⟩
theorem Held.size_any {K : Nat} {w0 w : World} {M : FsMem} {S : FsSt} (h : Held K w0 w M S) : Calls Tryz.prog 55 #[.pointer (some ⟨M.fb, 0, none⟩)] w fun e w' => e = .returned (.int .i64 S.size) ∧ w' = w := Go.Proofs.YtaolddgnannojaaGreatDoor.size_any w M S h.up.at_
theorem Held.steps_any {K : Nat} {w0 w : World} {M : FsMem} {S : FsSt} (h : Held K w0 w M S) : Calls Tryz.prog 57 #[.pointer (some ⟨M.fb, 0, none⟩)] w fun e w' => e = .returned (.int .i64 (S.steps : Nat)) ∧ w' = w := Go.Proofs.YtaolddgnannojaaGreatDoor.steps_any w M S h.up.at_
theorem Held.down_any {K : Nat} {w0 w : World} {M : FsMem} {S : FsSt} (h : Held K w0 w M S) : Calls Tryz.prog 58 #[.pointer (some ⟨M.fb, 0, none⟩)] w fun e w' => e = .returned (.bool S.down) ∧ w' = w := Go.Proofs.YtaolddgnannojaaGreatDoor.down_any w M S h.up.at_
/-- the end of a law -/
def LawPost (w : World) (e : Ending) (w' : World) : Prop := e = .returned (.bool true) ∧ Below w.heap.size w w'
end Go.Proofs.YtaolddgnannojaaGreatDoor
namespace Go.Proofs.YtaolddgnannojaaGreatDoor
open Go.RowKit Go.Maps

attribute [local go_sem] lt1 lt2 lt3 lt4 lt5 lt6

def nCell (p : NRow) : List Value := [.string p.1, .int .i64 (p.2 : Nat)]
def nCells (L : List NRow) : List Value := (L.map nCell).flatten
theorem nCell_len (L : List NRow) : ∀ c ∈ L.map nCell, c.length = 2 := fun c hc => by
  obtain ⟨p, _, rfl⟩ := List.mem_map.1 hc
  rfl
def noN : NRow := (⟨#[]⟩, 0)
structure NAt (w : World) (A : Option Addr) (cap : Nat) (L : List NRow) : Prop where
  nil : A = none → L = [] ∧ cap = 0
  le : L.length ≤ cap
  big : cap ≤ maxLen
  cells : 0 < L.length → ∃ b o, A = some ⟨b, o, none⟩ ∧ ∀ i p, L[i]? = some p → w.cell? ⟨b, o + i * 2, none⟩ = some (.string p.1) ∧ w.cell? ⟨b, o + i * 2 + 1, none⟩ = some (.int .i64 (p.2 : Nat))
theorem NAt.keep {w w' : World} {A : Option Addr} {cap : Nat} {L : List NRow} (h : NAt w A cap L) (hc : Cells w w') : NAt w' A cap L :=
  ⟨h.nil, h.le, h.big, fun hp => by
    obtain ⟨b, o, rfl, hx⟩ := h.cells hp
    exact ⟨b, o, rfl, fun i p hi => ⟨hc _ _ (hx i p hi).1, hc _ _ (hx i p hi).2⟩⟩⟩
theorem NAt.len {w : World} {A : Option Addr} {cap : Nat} {L : List NRow} (h : NAt w A cap L) : L.length ≤ 9223372036854775807 := by
  have h1 := h.le; have h2 := h.big; unfold maxLen at h2; omega
theorem nrow_getD {L : List NRow} {i : Nat} (h : i < L.length) : L[i]? = some (L.getD i noN) := by
  rw [List.getD_eq_getElem?_getD, List.getElem?_eq_getElem h]; rfl
theorem NAt.at_ {w : World} {A : Option Addr} {cap : Nat} {L : List NRow} (h : NAt w A cap L) {i : Nat} (hi : i < L.length) :
    ∃ b o, A = some ⟨b, o, none⟩ ∧ w.cell? ⟨b, o + i * 2, none⟩ = some (.string (L.getD i noN).1) ∧ w.cell? ⟨b, o + i * 2 + 1, none⟩ = some (.int .i64 ((L.getD i noN).2 : Nat)) := by
  obtain ⟨b, o, rfl, hx⟩ := h.cells (by omega)
  obtain ⟨h1, h2⟩ := hx i _ (nrow_getD hi)
  exact ⟨b, o, rfl, h1, h2⟩
/-- a row of names, of its own -/
def NOwn (w : World) (base : Nat) (v : Value) (L : List NRow) : Prop := w.ownsRow base 104 2 v L.length (nCells L)
theorem NOwn.rows {w : World} {base : Nat} {v : Value} {L : List NRow} (h : NOwn w base v L) : ∃ A c, v = .slice A L.length c ∧ NAt w A c L := by
  obtain ⟨A, c, rfl, hn, hA, hnc, hcm⟩ := own_form h
  refine ⟨A, c, rfl, fun h => ?_, hnc, hcm, fun hp => ?_⟩
  · obtain ⟨e1, e2⟩ := hn h
    exact ⟨List.eq_nil_of_length_eq_zero e1, e2⟩
  · cases A with
    | none => have := (hn rfl).1; omega
    | some a =>
      obtain ⟨g, rfl⟩ := hA a rfl
      refine ⟨g, 0, rfl, fun i p hi => ?_⟩
      have hm : (L.map nCell)[i]? = some (nCell p) := by rw [List.getElem?_map, hi]; rfl
      constructor
      · rw [Nat.zero_add]
        refine own_cell h ?_
        rw [show i * 2 = i * 2 + 0 by omega]
        exact (flat_at (nCell_len L) hm (by omega)).trans rfl
      · rw [Nat.zero_add]
        refine own_cell h ?_
        exact (flat_at (nCell_len L) hm (by omega)).trans rfl
def atInt (o : Option Nat) : Int := match o with
  | some i => (i : Nat)
  | none => -1
def AtPost (w : World) (L : List NRow) (s : ByteArray) (e : Ending) (w' : World) : Prop := e = .returned (.int .i64 (atInt (rat L s))) ∧ ∃ n, w' = w.drewN n
def AtRelN (w : World) (L : List NRow) (s : ByteArray) (iv : Value) (wr : World) : Prop := ∃ k : Nat, k ≤ L.length ∧ iv = .int .i64 k ∧ rat L s = rat (L.drop k) s ∧ ∃ n, wr = w.drewN n
theorem rat_drop {L : List NRow} {k : Nat} (h : k < L.length) (s : ByteArray) : rat (L.drop k) s = if (L.getD k noN).1 = s then some (L.getD k noN).2 else rat (L.drop (k + 1)) s := by
  have e : L.drop k = L.getD k noN :: L.drop (k + 1) := by
    rw [List.drop_eq_getElem_cons h, List.getD_eq_getElem?_getD, List.getElem?_eq_getElem h]
    rfl
  rw [e]
  unfold rat
  by_cases hs : (L.getD k noN).1 = s
  · rw [List.find?_cons_of_pos (by simpa using hs), if_pos hs]
    rfl
  · rw [List.find?_cons_of_neg (by simpa using hs), if_neg hs]
set_option maxHeartbeats 4000000 in
set_option maxRecDepth 100000 in
theorem at_any (w : World) (A : Option Addr) (c : Nat) (L : List NRow) (s : ByteArray) (h : NAt w A c L) : Calls Tryz.prog 71 #[.slice A L.length c, .string s] w (AtPost w L s) := by
  obtain ⟨P, hP⟩ : ∃ P, P = AtPost w L s := ⟨_, rfl⟩
  rw [← hP]
  have HP := Lib.hid hP
  have hlen := h.len
  have H := Lib.hid h
  clear hP h
  go_enter Tryz.func71, Tryz.ntmps71
  go_wp2_with fail
  go_loopw [5] (fun iv wr => AtRelN w L s iv wr) (fun iv _ => L.length - (intOf iv).toNat)
  case atStart => exact ⟨0, by omega, rfl, rfl, 0, rfl⟩
  case round =>
    obtain ⟨k, hk, rfl, hr, hwr⟩ := hrel
    have Hr := Lib.hid hr
    have Hwr := Lib.hid hwr
    have hcw : Cells w wr := by obtain ⟨n, rfl⟩ := hwr; exact fun _ _ h => h
    clear hr hwr
    by_cases hlt : k < L.length
    · obtain ⟨b, o, rfl, q0, q1⟩ := (H.out.keep hcw).at_ hlt
      have hd := rat_drop hlt s
      have hne := str_eq (L.getD k noN).1 s
      clear hcw
      generalize L.getD k noN = p at *
      by_cases hs : p.1 = s
      · rw [if_pos hs] at hd
        rw [decide_eq_true hs] at hne
        have Hend : Hid (P (.returned (.int .i64 (p.2 : Nat))) wr) := Lib.hid (by rw [HP.out]; refine ⟨?_, Hwr.out⟩; rw [Hr.out, hd]; rfl)
        clear hs hd
        go_wp2_with fail
        exact Hend.out
      · rw [if_neg hs] at hd
        rw [decide_eq_false hs] at hne
        have Hd := Lib.hid hd
        clear hs hd
        go_wp2_with fail
        go_roundw
        case rel => exact ⟨k + 1, by omega, by go_num, by rw [Hr.out, Hd.out], Hwr.out⟩
        case measure => simp [intOf]; omega
    · obtain rfl : k = L.length := by omega
      have Hend : Hid (P (.returned (.int .i64 (-1))) wr) := Lib.hid (by rw [HP.out]; refine ⟨?_, Hwr.out⟩; rw [Hr.out, List.drop_length]; rfl)
      clear hcw
      go_wp2_with fail
      exact Hend.out
theorem infoName : (Tryz.prog.info? 104).map (fun i => (i.zero, i.size, i.bytes)) = some (some (.agg #[.string ⟨#[]⟩, .int .i64 0]), 2, 24) := by kernel_rfl
theorem one_name {s : ByteArray} {n : Int} : ∀ v ∈ [Value.string s, .int .i64 n], v.oneCell' = true := by
  intro v hv
  simp only [List.mem_cons, List.not_mem_nil, or_false] at hv
  rcases hv with rfl | rfl <;> rfl
theorem nCells_app (L M : List NRow) : nCells (L ++ M) = nCells L ++ nCells M := by unfold nCells; rw [List.map_append, List.flatten_append]
theorem without_snoc (L : List NRow) {k : Nat} (h : k < L.length) (s : ByteArray) : without (L.take (k + 1)) s = if (L.getD k noN).1 = s then without (L.take k) s else without (L.take k) s ++ [L.getD k noN] := by
  have e : L.take (k + 1) = L.take k ++ [L.getD k noN] := by
    rw [List.take_succ_eq_append_getElem h]
    simp [List.getD_eq_getElem?_getD, h]
  rw [e]
  unfold without
  rw [List.filter_append]
  by_cases hs : (L.getD k noN).1 = s
  · rw [if_pos hs, List.filter_cons_of_neg (by simpa using hs), List.filter_nil, List.append_nil]
  · rw [if_neg hs, List.filter_cons_of_pos (by simpa using hs), List.filter_nil]
theorem without_le (L : List NRow) (s : ByteArray) : (without L s).length ≤ L.length := List.length_filter_le _ _
def NPost (w : World) (L : List NRow) (e : Ending) (w' : World) : Prop := ∃ v, e = .returned v ∧ NOwn w' w.heap.size v L ∧ Below w.heap.size w w'
def WoRel (w : World) (L : List NRow) (s : ByteArray) (ov iv : Value) (wr : World) : Prop := ∃ k : Nat, k ≤ L.length ∧ iv = .int .i64 k ∧ NOwn wr w.heap.size ov (without (L.take k) s) ∧ Below w.heap.size w wr
set_option maxHeartbeats 8000000 in
set_option maxRecDepth 100000 in
theorem without_any (w : World) (A : Option Addr) (c : Nat) (L : List NRow) (s : ByteArray) (h : NAt w A c L) (hL : L.length ≤ 1048576) : Calls Tryz.prog 99 #[.slice A L.length c, .string s] w (NPost w (without L s)) := by
  obtain ⟨P, hP⟩ : ∃ P, P = NPost w (without L s) := ⟨_, rfl⟩
  rw [← hP]
  have HP := Lib.hid hP
  have H := Lib.hid h
  obtain ⟨iF, hiF, hzF, hsF, hbF⟩ := info_parts infoName
  clear hP h
  go_enter Tryz.func99, Tryz.ntmps99
  go_wp2_with fail
  go_loopw [5, 6] (fun ov iv wr => WoRel w L s ov iv wr) (fun _ iv _ => L.length - (intOf iv).toNat)
  case atStart => exact ⟨0, by omega, rfl, World.ownsRow_nil _ _ _ _, Below.refl _ _⟩
  case round =>
    obtain ⟨k, hk, rfl, hrow, hbl⟩ := hrel
    obtain ⟨n, hn⟩ : ∃ n, n = (without (L.take k) s).length := ⟨_, rfl⟩
    have hnk : n ≤ k := by
      rw [hn]
      have := without_le (L.take k) s
      rw [List.length_take] at this
      omega
    unfold NOwn at hrow
    rw [← hn] at hrow
    obtain ⟨Ao, co, hov⟩ := own_formT hrow
    subst hov
    have Hrow := Lib.hid hrow
    have Hbl := Lib.hid hbl
    have Hn := Lib.hid hn
    clear hrow hbl hn
    by_cases hlt : k < L.length
    · obtain ⟨b, o, rfl, q0, q1⟩ := (H.out.keep (Cells.of_below Hbl.out)).at_ hlt
      have hd := without_snoc L hlt s
      have hne := str_eq (L.getD k noN).1 s
      generalize L.getD k noN = p at *
      by_cases hs : p.1 = s
      · rw [if_pos hs] at hd
        rw [decide_eq_true hs] at hne
        have hbn : (p.1.toList != s.toList) = false := by rw [bne, hne]; rfl
        have Hfin : Hid (WoRel w L s (.slice Ao n co) (.int .i64 ((k : Int) + 1)) wr) := Lib.hid ⟨k + 1, by omega, by simp, by unfold NOwn; rw [hd, ← Hn.out]; exact Hrow.out, Hbl.out⟩
        clear hs hd
        go_wp2_with fail
        go_roundw
        case rel => exact Hfin.out
        case measure => simp [intOf]; omega
      · rw [if_neg hs] at hd
        rw [decide_eq_false hs] at hne
        have hbn : (p.1.toList != s.toList) = true := by rw [bne, hne]; rfl
        have Hd := Lib.hid hd
        clear hs hd
        go_wp2_with (first | (at_builtin; refine wpList_append_own_at _ rfl _ _ 51 rfl w.heap.size 104 iF (.agg #[.string ⟨#[]⟩, .int .i64 0]) 2 24 Tryz.underlying51 hiF hzF hsF hbF rfl (by omega) (.slice Ao n co) n (nCells (without (L.take k) s)) rfl (World.ownsRow.alloc Hrow.out _) ⟨wr.heap.size, 0, none⟩ 1 1 [.string p.1, .int .i64 (p.2 : Nat)] rfl rfl (fun j v hv => World.news_of_block (heap_alloc_new _ _) j v hv) one_name (by unfold maxLen; omega) (by omega) (by have := Hbl.out.size; simp; omega) ?_))
        intro v7 w7 h7 hg7 _ hat7
        have hg8 : wr.grownBy w7 (Value.slice Ao n co).ownBlock := (World.grownBy_alloc wr _ _).andThen hg7 (fun j hj => .inr hj)
        obtain ⟨A7, c7, hv7⟩ := own_formT h7
        have Hfin : Hid (WoRel w L s v7 (.int .i64 ((k : Int) + 1)) w7) := Lib.hid ⟨k + 1, by omega, by simp, by
          unfold NOwn
          rw [Hd.out, nCells_app, List.length_append, ← Hn.out]
          exact h7, Hbl.out.grown hg8 Hbl.out.size fun k hk => (own_blk Hrow.out k hk).1⟩
        rw [hv7] at Hfin ⊢
        clear h7 hg7 hg8 hat7 hv7
        go_wp2_with fail
        go_roundw
        case rel => exact Hfin.out
        case measure => simp [intOf]; omega
    · obtain rfl : k = L.length := by omega
      have Hend : Hid (P (.returned (.slice Ao n co)) wr) := Lib.hid (by
        rw [HP.out]
        refine ⟨_, rfl, ?_, Hbl.out⟩
        have := Hrow.out
        rw [Hn.out, List.take_length] at this
        rw [Hn.out, List.take_length]
        exact this)
      clear Hrow Hbl Hn
      go_wp2_with fail
      exact Hend.out
end Go.Proofs.YtaolddgnannojaaGreatDoor
