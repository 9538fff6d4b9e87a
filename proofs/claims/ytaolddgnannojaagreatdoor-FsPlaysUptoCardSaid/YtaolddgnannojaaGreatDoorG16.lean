/-
  Files in memory, as a list; SameFiles.
  A file system, plain: its lists of files; what a crash leaves.
-/
import Derived.Test.YtaolddgnannojaaGreatDoorFsAbs
import Derived.Test.YtaolddgnannojaaGreatDoorFsSettle
import Derived.Deep.RegionHeld3
import Derived.Test.YtaolddgnannojaaGreatDoorFsPl
namespace Go.Proofs.YtaolddgnannojaaGreatDoor
open Go.RowKit

set_option linter.unusedSimpArgs false

attribute [local go_sem] lt1 lt2 lt3 lt4 lt5 lt6

/-- a file: its name, its bytes -/
abbrev Fl : Type := ByteArray × List UInt8
def noFl : Fl := (⟨#[]⟩, [])
/-- a file's two cells, its bytes lying in w -/
def CFl (w : World) (c : List Value) (p : Fl) : Prop := ∃ Ai ci, c = [.string p.1, .slice Ai p.2.length ci] ∧ Bs w Ai ci p.2
theorem CFl.keep {w w' : World} (hc : Cells w w') {c : List Value} {p : Fl} (h : CFl w c p) : CFl w' c p := by
  obtain ⟨Ai, ci, h1, h2⟩ := h
  exact ⟨Ai, ci, h1, h2.keep hc⟩
theorem CFl.len {w : World} {c : List Value} {p : Fl} (h : CFl w c p) : c.length = 2 := by
  obtain ⟨_, _, rfl, _⟩ := h
  rfl
theorem CFl.one {w : World} {c : List Value} {p : Fl} (h : CFl w c p) : ∀ v ∈ c, v.oneCell' = true := by
  obtain ⟨_, _, rfl, _⟩ := h
  intro v hv
  simp only [List.mem_cons, List.not_mem_nil, or_false] at hv
  rcases hv with rfl | rfl <;> rfl
theorem All2.at_ {α β : Type} {Q : α → β → Prop} : ∀ {l : List α} {m : List β} {i : Nat} {b : β}, All2 Q l m → m[i]? = some b → ∃ a, l[i]? = some a ∧ Q a b
  | [], [], i, b, _, hi => by simp at hi
  | a :: l, c :: m, 0, b, h, hi => by
    simp at hi
    subst hi
    exact ⟨a, rfl, h.1⟩
  | a :: l, c :: m, i + 1, b, h, hi => by
    simp only [List.getElem?_cons_succ] at hi ⊢
    exact All2.at_ h.2 hi
  | [], _ :: _, _, _, h, _ => h.elim
  | _ :: _, [], _, _, h, _ => h.elim
theorem All2.forall_left {α β : Type} {Q : α → β → Prop} {R : α → Prop} (hR : ∀ a b, Q a b → R a) : ∀ {l : List α} {m : List β}, All2 Q l m → ∀ a ∈ l, R a
  | [], [], _, a, ha => by simp at ha
  | x :: l, y :: m, h, a, ha => by
    rcases List.mem_cons.1 ha with rfl | ha
    · exact hR _ _ h.1
    · exact All2.forall_left hR h.2 a ha
  | [], _ :: _, h, _, _ => h.elim
  | _ :: _, [], h, _, _ => h.elim
theorem flat_len {k : Nat} : ∀ {cs : List (List Value)} (_ : ∀ c ∈ cs, c.length = k), cs.flatten.length = cs.length * k
  | [], _ => by simp
  | a :: cs, h => by
    rw [List.flatten_cons, List.length_append, h a (by simp), flat_len (fun c hc => h c (by simp [hc])), List.length_cons, Nat.add_mul]
    omega
/-- (A, cap) is a slice of the files ps -/
structure FlAt (w : World) (A : Option Addr) (cap : Nat) (ps : List Fl) : Prop where
  nil : A = none → ps = [] ∧ cap = 0
  le : ps.length ≤ cap
  big : cap ≤ maxLen
  cells : 0 < ps.length → ∃ b o, A = some ⟨b, o, none⟩ ∧ ∀ i p, ps[i]? = some p → w.cell? ⟨b, o + i * 2, none⟩ = some (.string p.1) ∧
    ∃ Ai ci, w.cell? ⟨b, o + i * 2 + 1, none⟩ = some (.slice Ai p.2.length ci) ∧ Bs w Ai ci p.2
theorem FlAt.keep {w w' : World} {A : Option Addr} {cap : Nat} {ps : List Fl} (h : FlAt w A cap ps) (hc : Cells w w') : FlAt w' A cap ps :=
  ⟨h.nil, h.le, h.big, fun hp => by
    obtain ⟨b, o, rfl, hx⟩ := h.cells hp
    refine ⟨b, o, rfl, fun i p hi => ?_⟩
    obtain ⟨h1, Ai, ci, h4, h5⟩ := hx i p hi
    exact ⟨hc _ _ h1, Ai, ci, hc _ _ h4, h5.keep hc⟩⟩
theorem FlAt.below {w w' : World} {A : Option Addr} {cap : Nat} {ps : List Fl} (h : FlAt w A cap ps) (hb : Below w.heap.size w w') : FlAt w' A cap ps := h.keep (Cells.of_below hb)
theorem fl_getD {ps : List Fl} {i : Nat} (h : i < ps.length) : ps[i]? = some (ps.getD i noFl) := by
  rw [List.getD_eq_getElem?_getD, List.getElem?_eq_getElem h]; rfl
/-- the file at place i, in memory -/
theorem FlAt.at_ {w : World} {A : Option Addr} {cap : Nat} {ps : List Fl} (h : FlAt w A cap ps) {i : Nat} (hi : i < ps.length) :
    ∃ b o Ai ci, A = some ⟨b, o, none⟩ ∧ w.cell? ⟨b, o + i * 2, none⟩ = some (.string (ps.getD i noFl).1) ∧ w.cell? ⟨b, o + i * 2 + 1, none⟩ = some (.slice Ai (ps.getD i noFl).2.length ci) ∧ Bs w Ai ci (ps.getD i noFl).2 := by
  obtain ⟨b, o, rfl, hx⟩ := h.cells (by omega)
  obtain ⟨h1, Ai, ci, h2, h3⟩ := hx i _ (fl_getD hi)
  exact ⟨b, o, Ai, ci, rfl, h1, h2, h3⟩
/-- the row of the files ps, of the call's own -/
def FlOwn (w : World) (base : Nat) (v : Value) (ps : List Fl) : Prop := ∃ cs, All2 (CFl w) cs ps ∧ w.ownsRow base 44 2 v ps.length cs.flatten
theorem FlOwn.nil (w : World) (base : Nat) : FlOwn w base (.slice none 0 0) [] := ⟨[], trivial, World.ownsRow_nil _ _ _ _⟩
theorem FlOwn.files {w : World} {base : Nat} {v : Value} {ps : List Fl} (h : FlOwn w base v ps) : ∃ A c, v = .slice A ps.length c ∧ FlAt w A c ps := by
  obtain ⟨cs, h1, h2⟩ := h
  obtain ⟨A, c, rfl, hn, hA, hnc, hcm⟩ := own_form h2
  refine ⟨A, c, rfl, fun h => ?_, hnc, hcm, fun hp => ?_⟩
  · obtain ⟨e1, e2⟩ := hn h
    exact ⟨List.eq_nil_of_length_eq_zero e1, e2⟩
  · cases A with
    | none => have := (hn rfl).1; omega
    | some a =>
      obtain ⟨g, rfl⟩ := hA a rfl
      refine ⟨g, 0, rfl, fun i p hi => ?_⟩
      obtain ⟨c', hc, Ai, ci, rfl, hbs⟩ := h1.at_ hi
      have hk : ∀ c ∈ cs, c.length = 2 := h1.forall_left fun c p hh => hh.len
      refine ⟨?_, Ai, ci, ?_, hbs⟩
      · rw [Nat.zero_add]
        refine own_cell h2 ?_
        rw [show i * 2 = i * 2 + 0 by omega, flat_at hk hc (by omega)]; rfl
      · rw [Nat.zero_add]
        refine own_cell h2 ?_
        rw [flat_at hk hc (by omega)]; rfl
theorem FlOwn.keep {w w' : World} {base : Nat} {v : Value} {ps : List Fl} (h : FlOwn w base v ps) (hc : Cells w w') (hk : ∀ (g : Nat) (cs : Array Value), w.heap[g]? = some (.cells cs 44 (0, 0)) → w'.heap[g]? = some (.cells cs 44 (0, 0))) : FlOwn w' base v ps := by
  obtain ⟨cs, h1, h2⟩ := h
  exact ⟨cs, h1.mono fun _ _ hh => hh.keep hc, own_keep h2 hk⟩
theorem FlOwn.below {w w' : World} {base : Nat} {v : Value} {ps : List Fl} (h : FlOwn w base v ps) (hb : Below w.heap.size w w') : FlOwn w' base v ps :=
  h.keep (Cells.of_below hb) fun g _ hg => (hb.block g (lt_of_heap hg)).trans hg
theorem FlOwn.base {w : World} {base base' : Nat} {v : Value} {ps : List Fl} (h : FlOwn w base v ps) (hb : base' ≤ base) : FlOwn w base' v ps := by
  obtain ⟨cs, h1, h2⟩ := h
  exact ⟨cs, h1, own_base h2 hb⟩
theorem infoFile : (Tryz.prog.info? 44).map (fun i => (i.zero, i.size, i.bytes)) = some (some (.agg #[.string ⟨#[]⟩, .slice none 0 0]), 2, 40) := by kernel_rfl
theorem snoc_file {w : World} {ps : List Fl} {cs : List (List Value)} (h : All2 (CFl w) cs ps) {c : List Value} {p : Fl} (hc : CFl w c p) : All2 (CFl w) (cs ++ [c]) (ps ++ [p]) := All2.append hc h
theorem take_getD {ps : List Fl} {i : Nat} (h : i < ps.length) : ps.take (i + 1) = ps.take i ++ [ps.getD i noFl] := by
  rw [List.take_succ_eq_append_getElem h]
  simp [List.getD_eq_getElem?_getD, h]

theorem str_eq (a b : ByteArray) : (a.toList == b.toList) = decide (a = b) := by
  by_cases h : a = b
  · subst h; simp
  · have h2 : a.toList ≠ b.toList := fun e => h (by rw [Lib.toList_data, Lib.toList_data] at e; cases a; cases b; simpa using e)
    simp [h, h2]
def SmFRel (x y : List Fl) (w : World) (i : Value) (wr : World) : Prop := ∃ k : Nat, k ≤ x.length ∧ i = .int .i64 k ∧ x.take k = y.take k ∧ ∃ n, wr = w.drewN n
set_option maxHeartbeats 2000000 in
set_option maxRecDepth 100000 in
theorem samef_any (x y : List Fl) (A1 A2 : Option Addr) (c1 c2 : Nat) (w : World) (h1 : FlAt w A1 c1 x) (h2 : FlAt w A2 c2 y) :
    Calls Tryz.prog 52 #[.slice A1 x.length c1, .slice A2 y.length c2] w fun e w' => e = .returned (.bool (decide (x = y))) ∧ ∃ n, w' = w.drewN n := by
  have hx : x.length ≤ 9223372036854775807 := by have h3 := h1.le; have h4 := h1.big; unfold maxLen at h4; omega
  have hy : y.length ≤ 9223372036854775807 := by have h3 := h2.le; have h4 := h2.big; unfold maxLen at h4; omega
  have H1 := Lib.hid h1
  have H2 := Lib.hid h2
  clear h1 h2
  by_cases hl : x.length = y.length
  · have Hl := Lib.hid hl
    clear hl
    have hb : ((x.length : Int) != y.length) = false := by simp [Hl.out]
    go_enter Tryz.func52, Tryz.ntmps52
    go_wp2
    go_loopw [5] (fun i wr => SmFRel x y w i wr) (fun i _ => x.length - (intOf i).toNat)
    case atStart => exact ⟨0, by omega, rfl, rfl, 0, rfl⟩
    case round =>
      obtain ⟨k, hk, rfl, hkk, hwr⟩ := hrel
      have Hkk := Lib.hid hkk
      have Hwr := Lib.hid hwr
      have Hwd : Hid (∀ m, ∃ n, wr.drewN m = w.drewN n) := Lib.hid fun m => by obtain ⟨n, rfl⟩ := hwr; exact ⟨_, World.drewN_drewN _ _ _⟩
      have hcw : Cells w wr := by obtain ⟨n, rfl⟩ := hwr; exact fun _ _ h => h
      have H1' := Lib.hid (H1.out.keep hcw)
      have H2' := Lib.hid (H2.out.keep hcw)
      clear hkk hwr hcw
      have hkr : (0 : Int) ≤ k := by omega
      by_cases hlt : k < x.length
      · have hlt2 : k < y.length := by have := Hl.out; omega
        have hk1 : (k : Int) < x.length := by omega
        have hk2 : (k : Int) < y.length := by omega
        obtain ⟨b1, o1, B1, d1, hA1, g1, g1', hb1⟩ := H1'.out.at_ hlt
        obtain ⟨b2, o2, B2, d2, hA2, g2, g2', hb2⟩ := H2'.out.at_ hlt2
        subst hA1 hA2
        have Htk := Lib.hid (And.intro (take_getD hlt) (take_getD hlt2))
        have Hne : Hid (x.getD k noFl ≠ y.getD k noFl → x ≠ y) := Lib.hid fun h e => h (by rw [e])
        obtain ⟨p, hp⟩ : ∃ p, p = x.getD k noFl := ⟨_, rfl⟩
        obtain ⟨q, hq⟩ : ∃ q, q = y.getD k noFl := ⟨_, rfl⟩
        rw [← hp] at g1 g1' hb1 Htk Hne
        rw [← hq] at g2 g2' hb2 Htk Hne
        clear hp hq
        have hne := str_eq p.1 q.1
        by_cases he : p.1 = q.1
        · rw [decide_eq_true he] at hne
          have hs := fun m => same_any p.2 q.2 B1 B2 d1 d2 (wr.drewN m) (hb1.keep fun _ _ h => h) (hb2.keep fun _ _ h => h)
          by_cases he2 : p.2 = q.2
          · have hbb : (p.2 == q.2) = true := by rw [he2]; exact BEq.rfl
            rw [hbb] at hs
            have Hpq : Hid (p = q) := Lib.hid (Prod.ext he he2)
            clear he he2 hbb hb1 hb2
            go_wp2_with fail
            go_quiet ((go_at_call 44; with_reducible exact Calls.quiet_of (hs _)))
            go_wp2
            go_roundw
            case rel =>
              refine ⟨k + 1, by omega, by go_num, ?_, Hwd.out _⟩
              rw [Htk.out.1, Htk.out.2, Hkk.out, Hpq.out]
            case measure => simp [intOf]; omega
          · have hbb : (p.2 == q.2) = false := beq_eq_false_iff_ne.2 he2
            rw [hbb] at hs
            have Hpq : Hid (p ≠ q) := Lib.hid fun e => he2 (by rw [e])
            clear he he2 hbb hb1 hb2
            go_wp2_with fail
            go_quiet ((go_at_call 44; with_reducible exact Calls.quiet_of (hs _)))
            go_wp2
            go_ret
            exact ⟨ret_bool (decide_eq_false (Hne.out Hpq.out)).symm, Hwd.out _⟩
        · rw [decide_eq_false he] at hne
          have Hpq : Hid (p ≠ q) := Lib.hid fun e => he (by rw [e])
          clear he hb1 hb2
          go_wp2_with fail
          go_quiet (fail)
          go_wp2
          go_ret
          exact ⟨ret_bool (decide_eq_false (Hne.out Hpq.out)).symm, Hwd.out _⟩
      · go_wp2
        go_ret
        refine ⟨ret_bool (decide_eq_true ?_).symm, Hwr.out⟩
        have h3 := Hkk.out
        have h4 := Hl.out
        rw [List.take_of_length_le (by omega), List.take_of_length_le (by omega)] at h3
        exact h3
  · have hb : ((x.length : Int) != y.length) = true := by rw [bne_iff_ne]; omega
    have Hl := Lib.hid hl
    clear hl
    go_enter Tryz.func52, Tryz.ntmps52
    go_wp2
    go_ret
    exact ⟨ret_bool (decide_eq_false fun e => Hl.out (by rw [e])).symm, 0, rfl⟩
/-- a file's cells, its bytes in memory of their own from base on -/
def CFm (w : World) (base : Nat) (c : List Value) (p : Fl) : Prop :=
  ∃ g, c = [.string p.1, .slice (some ⟨g, 0, none⟩) p.2.length p.2.length] ∧ base ≤ g ∧ p.2.length ≤ 1048576 ∧ w.heap[g]? = some (.cells (u8s p.2).toArray 5 (0, 0))
theorem CFm.cfl {w : World} {base : Nat} {c : List Value} {p : Fl} (h : CFm w base c p) : CFl w c p := by
  obtain ⟨g, rfl, _, h2, h3⟩ := h
  exact ⟨_, _, rfl, Bs.of_block h3 (Nat.le_refl _) (by unfold maxLen; omega)⟩
/-- every block of bytes is as it was -/
def Bytes8 (w w' : World) : Prop := ∀ (k : Nat) (cur : Array Value), w.heap[k]? = some (.cells cur 5 (0, 0)) → w'.heap[k]? = some (.cells cur 5 (0, 0))
theorem Bytes8.of_below {w w' : World} (h : Below w.heap.size w w') : Bytes8 w w' := fun k _ hk => (h.block k (lt_of_heap hk)).trans hk
theorem Bytes8.trans {a b c : World} (h : Bytes8 a b) (k : Bytes8 b c) : Bytes8 a c := fun i cur hi => k i cur (h i cur hi)
theorem Bytes8.of_fr {w w' : World} {g : Nat} (h : Fr [g] w w') (hm : ∃ es c, w.heap[g]? = some (.map es c)) : Bytes8 w w' := fun k _ hk => by
  refine (h.block k (lt_of_heap hk) fun hh => ?_).trans hk
  obtain ⟨es, c, he⟩ := hm
  rw [List.mem_singleton.1 hh, he] at hk
  cases hk
theorem Bytes8.of_grown {w w' : World} {base : Nat} {v : Value} {n k : Nat} {xs : List Value} (h : w.grownBy w' v.ownBlock) (ho : w.ownsRow base 44 k v n xs) : Bytes8 w w' := fun i cur hi => by
  refine (h.block _ (lt_of_heap hi) fun e => ?_).trans hi
  obtain ⟨_, cur', hcur⟩ := own_blk ho _ e.symm
  rw [hi] at hcur
  simp at hcur
theorem CFm.keep {w w' : World} {base : Nat} {c : List Value} {p : Fl} (h : CFm w base c p) (hb : Bytes8 w w') : CFm w' base c p := by
  obtain ⟨g, h1, h2, h3, h4⟩ := h
  exact ⟨g, h1, h2, h3, hb _ _ h4⟩
theorem CFm.base {w : World} {base base' : Nat} {c : List Value} {p : Fl} (h : CFm w base c p) (hb : base' ≤ base) : CFm w base' c p := by
  obtain ⟨g, h1, h2, h3⟩ := h
  exact ⟨g, h1, by omega, h3⟩
/-- a made row of files whose bytes are in memory of their own -/
def FlM (w : World) (base : Nat) (v : Value) (l : List Fl) : Prop := ∃ cs, All2 (CFm w base) cs l ∧ w.ownsRow base 44 2 v l.length cs.flatten
theorem FlM.own {w : World} {base : Nat} {v : Value} {l : List Fl} (h : FlM w base v l) : FlOwn w base v l := by
  obtain ⟨cs, h1, h2⟩ := h
  exact ⟨cs, h1.mono fun _ _ h => h.cfl, h2⟩
theorem FlM.nil (w : World) (base : Nat) : FlM w base (.slice none 0 0) [] := ⟨[], trivial, World.ownsRow_nil _ _ _ _⟩
end Go.Proofs.YtaolddgnannojaaGreatDoor
namespace Go.Proofs.YtaolddgnannojaaGreatDoor
open Go.RowKit Go.Maps

def dataNo (fs : List (Nat × FileC)) (k : Nat) : List UInt8 := match numF fs k with
  | some c => c.d
  | none => []
def durNo (fs : List (Nat × FileC)) (k : Nat) : List UInt8 := match numF fs k with
  | some c => c.d.take c.sy
  | none => []
def mkS (x : List UInt8) : ByteArray := ⟨x.toArray⟩
theorem mkS_toL (s : ByteArray) : mkS (toL s) = s := by unfold mkS toL; simp
theorem toL_mkS (x : List UInt8) : toL (mkS x) = x := by unfold mkS toL; simp
/-- a map's names, sorted -/
def keysOf (D : Dm) : List ByteArray := ((strKeys D).mergeSort leB).map mkS
def below (dir : ByteArray) (x : List UInt8) : Bool := (dir.size == 0) || Lib.hasPrefix x (dir ++ ⟨#[47]⟩ : ByteArray).data.toList
def FsSt.listed (S : FsSt) (dir : ByteArray) : List ByteArray := (((strKeys S.names).filter (below dir)).mergeSort leB).map mkS
def FsSt.filesL (S : FsSt) : List Fl := (keysOf S.names).map fun s => (s, dataNo S.files (nget S.names s))
def FsSt.durL (S : FsSt) : List Fl := (keysOf S.dur).map fun s => (s, durNo S.files (nget S.dur s))
theorem listed_all (S : FsSt) : S.listed ⟨#[]⟩ = keysOf S.names := by
  unfold FsSt.listed keysOf
  have : (strKeys S.names).filter (below ⟨#[]⟩) = strKeys S.names := List.filter_eq_self.2 fun x _ => rfl
  rw [this]
theorem mem_strKeys {D : Dm} (h : DirOk D) {x : List UInt8} : x ∈ strKeys D ↔ nget D (mkS x) ≠ 0 := by
  rw [← h.has_iff]
  obtain ⟨es, rfl, h1, h2⟩ := h.canon
  rw [has_eq, List.any_eq_true]
  show x ∈ es.map (fun p => strOf p.1) ↔ _
  rw [List.mem_map]
  constructor
  · rintro ⟨p, hp, rfl⟩
    obtain ⟨s, hs, _⟩ := h.str p.1 (List.any_eq_true.2 ⟨p, hp, WideAt.sameKey_self (h2 p hp)⟩)
    refine ⟨p, hp, ?_⟩
    rw [hs]
    have : mkS (strOf (sk s)) = s := mkS_toL s
    rw [this]
    exact WideAt.sameKey_self (sk_key s)
  · rintro ⟨p, hp, hk⟩
    refine ⟨p, hp, ?_⟩
    rw [WideAt.sameKey_eq hk]
    exact toL_mkS x
theorem mem_keysOf {D : Dm} (h : DirOk D) {s : ByteArray} : s ∈ keysOf D ↔ nget D s ≠ 0 := by
  unfold keysOf
  rw [List.mem_map]
  constructor
  · rintro ⟨x, hx, rfl⟩
    exact (mem_strKeys h).1 (List.mem_mergeSort.1 hx)
  · intro hn
    refine ⟨toL s, List.mem_mergeSort.2 ((mem_strKeys h).2 ?_), mkS_toL s⟩
    rw [mkS_toL]
    exact hn
theorem strKeys_len {D : Dm} (h : DirOk D) : (strKeys D).length = Maps.size D := by
  obtain ⟨es, rfl, h1, h2⟩ := h.canon
  show (es.map _).length = es.length
  simp
theorem keysOf_len {D : Dm} (h : DirOk D) : (keysOf D).length = Maps.size D := by
  unfold keysOf
  rw [List.length_map, List.length_mergeSort, strKeys_len h]
/-! ### a crash -/
def cutF (m : Nat) (c : FileC) : FileC := ⟨c.d.take (c.sy + min m (c.d.length - c.sy)), c.sy + min m (c.d.length - c.sy)⟩
def crashN (S : FsSt) (n : Int) : Nat := (min (max n 0) (S.pend.length : Int)).toNat
theorem crashN_le (S : FsSt) (n : Int) : crashN S n ≤ S.pend.length := by unfold crashN; omega
def FsSt.crashD (S : FsSt) (n : Int) : Dm := durOf S.dur (S.pend.take (crashN S n))
def FsSt.crash1 (S : FsSt) (n : Int) : FsSt := { S with dur := S.crashD n, pend := [], names := S.crashD n }
def FsSt.cutAll (S : FsSt) (m : Nat) : FsSt := { S with files := S.files.map fun e => (e.1, cutF m e.2) }
def sumNo (fs : List (Nat × FileC)) (D : Dm) : Nat := ((vals D).map fun k => (dataNo fs k).length).sum
def FsSt.summed (S : FsSt) : FsSt := { S with size := sumNo S.files S.names }
def FsSt.crash (S : FsSt) (n m : Int) : FsSt := { ((((S.crash1 n).settle 0).cutAll (max m 0).toNat).summed) with armed := 0, down := false }
theorem cutF_len {m : Nat} {c : FileC} (h : c.sy ≤ c.d.length) : (cutF m c).sy = (cutF m c).d.length ∧ (cutF m c).d.length ≤ c.d.length ∧ (cutF m c).d.take c.sy = c.d.take c.sy ∧ (cutF m c).d.length = c.sy + min m (c.d.length - c.sy) := by
  unfold cutF
  simp only [List.length_take, List.take_take]
  refine ⟨by omega, by omega, ?_, by omega⟩
  congr 1
  omega
theorem cutF_again {m' : Nat} {c : FileC} (h : c.sy = c.d.length) : cutF m' c = c := by
  cases c with
  | mk d sy =>
    simp only at h
    subst h
    unfold cutF
    simp
theorem good_crash1 {K : Nat} {S : FsSt} (h : FsGood K S) (n : Int) : FsGood K (S.crash1 n) := by
  obtain ⟨h1, h2⟩ := h.durs (crashN S n)
  have hr := h.room
  have hm := h.inv
  have htl : (S.pend.take (crashN S n)).length ≤ S.pend.length := by rw [List.length_take]; omega
  have hno : NamesOk (S.crash1 n) (S.crashD n) K := ⟨by unfold FsSt.crashD; omega, fun _ hs => h1.dir.short hs, fun s hs => (FsSt.idx_iff _ _).2 (h1.has s hs), h1.most⟩
  exact ⟨⟨hm.quota, hm.last, hm.ord, hm.rng, hm.many, hm.sy, hno, hno, Nat.zero_le _, fun p hp => by simp [FsSt.crash1] at hp, hm.size, hm.steps, hm.armed⟩, h1.dir, h1.dir, by show Maps.size (S.crashD n) + 0 ≤ K; unfold FsSt.crashD; omega⟩
theorem good_cutAll {K : Nat} {S : FsSt} (h : FsGood K S) (m : Nat) : FsGood K (S.cutAll m) := by
  have hm := h.inv
  have hf : (S.files.map fun e => (e.1, cutF m e.2)).map (·.1) = S.files.map (·.1) := by rw [List.map_map]; rfl
  have hs : ∀ k, k ∈ S.files.map (·.1) → k ∈ (S.files.map fun e => (e.1, cutF m e.2)).map (·.1) := fun k hk => by rw [hf]; exact hk
  refine ⟨⟨hm.quota, hm.last, by show ((S.files.map fun e => (e.1, cutF m e.2)).map (·.1)).Pairwise _; rw [hf]; exact hm.ord, ?_, ?_, ?_, hm.names.mono (Nat.le_refl _) hs, hm.dur.mono (Nat.le_refl _) hs, hm.pends, fun p hp => (hm.pend p hp).mono (Nat.le_refl _) hs, hm.size, hm.steps, hm.armed⟩, h.dn, h.dd, h.room⟩
  · intro e he
    obtain ⟨e', he', rfl⟩ := List.mem_map.1 he
    exact hm.rng e' he'
  · show (S.files.map _).length ≤ K
    rw [List.length_map]
    exact hm.many
  · intro e he
    obtain ⟨e', he', rfl⟩ := List.mem_map.1 he
    have h1 := hm.sy e' he'
    have h2 := cutF_len (m := m) h1.1
    exact ⟨by show (cutF m e'.2).sy ≤ (cutF m e'.2).d.length; omega, by show (cutF m e'.2).d.length ≤ K; omega⟩
theorem vals_len {D : Dm} (h : DirOk D) : (vals D).length = Maps.size D := by
  obtain ⟨es, rfl, h1, h2⟩ := h.canon
  show (es.map _).length = es.length
  simp
theorem dataNo_le {K : Nat} {S : FsSt} (h : FsInv K S) (k : Nat) : (dataNo S.files k).length ≤ K := by
  unfold dataNo
  split
  · rename_i c hc
    exact (h.sy _ (numF_mem hc)).2
  · exact Nat.zero_le _
theorem sum_le {l : List Nat} {f : Nat → Nat} {K : Nat} (h : ∀ k ∈ l, f k ≤ K) : (l.map f).sum ≤ l.length * K := by
  induction l with
  | nil => simp
  | cons k l ih =>
    have h1 := h k (by simp)
    have h2 := ih fun j hj => h j (by simp [hj])
    simp only [List.map_cons, List.sum_cons, List.length_cons, Nat.succ_mul]
    omega
theorem sumNo_le {K : Nat} {S : FsSt} (h : FsInv K S) {D : Dm} (hD : DirOk D) (hs : Maps.size D ≤ K) : sumNo S.files D ≤ K * K := by
  unfold sumNo
  refine Nat.le_trans (sum_le fun k _ => dataNo_le h k) ?_
  rw [vals_len hD]
  exact Nat.mul_le_mul_right K hs
theorem good_summed {K : Nat} {S : FsSt} (h : FsGood K S) : FsGood K S.summed := by
  have h1 := sumNo_le h.inv h.dn h.inv.names.size
  refine h.sized (z := (sumNo S.files S.names : Nat)) (Nat.le_refl _) ⟨?_, ?_⟩
  · have : (0 : Int) ≤ (K : Int) * K := by exact_mod_cast Nat.zero_le (K * K)
    omega
  · exact_mod_cast h1
theorem good_crash {K : Nat} {S : FsSt} (h : FsGood K S) (n m : Int) : FsGood K (S.crash n m) := by
  have h1 := good_crash1 h n
  have h2 := good_settle h1 0 (Nat.zero_le _) (Nat.le_refl K) h1.inv.dur.size
  have h3 := good_summed (good_cutAll h2 (max m 0).toNat)
  have h4 := h3.arm 0 (by omega)
  exact ⟨⟨h4.inv.quota, h4.inv.last, h4.inv.ord, h4.inv.rng, h4.inv.many, h4.inv.sy, ⟨h4.inv.names.size, h4.inv.names.short, h4.inv.names.has, h4.inv.names.most⟩, ⟨h4.inv.dur.size, h4.inv.dur.short, h4.inv.dur.has, h4.inv.dur.most⟩, h4.inv.pends, h4.inv.pend, h4.inv.size, h4.inv.steps, h4.inv.armed⟩, h4.dn, h4.dd, h4.room⟩
theorem crash_names (S : FsSt) (n m : Int) : (S.crash n m).names = S.crashD n ∧ (S.crash n m).dur = S.crashD n ∧ (S.crash n m).pend = [] ∧ (S.crash n m).down = false ∧ (S.crash n m).armed = 0 ∧ (S.crash n m).quota = S.quota ∧ (S.crash n m).steps = S.steps := ⟨rfl, rfl, rfl, rfl, rfl, rfl, rfl⟩
theorem crash_file {K : Nat} {S : FsSt} (h : FsGood K S) (n m : Int) {s : ByteArray} (hs : nget (S.crashD n) s ≠ 0) :
    ∃ c, numF S.files (nget (S.crashD n) s) = some c ∧ c.sy ≤ c.d.length ∧ numF (S.crash n m).files (nget (S.crashD n) s) = some (cutF (max m 0).toNat c) := by
  obtain ⟨h1, h2⟩ := h.durs (crashN S n)
  obtain ⟨c, hc⟩ := numF_some (h1.has s hs)
  refine ⟨c, hc, (h.inv.sy _ (numF_mem hc)).1, ?_⟩
  show numF (List.map (fun e => (e.1, cutF (max m 0).toNat e.2)) (S.files.filter fun e => (usedL (S.crashD n) (S.crashD n) []).contains e.1)) (nget (S.crashD n) s) = _
  rw [numF_map, numF_filter (q := (usedL (S.crashD n) (S.crashD n) []).contains)]
  · show Option.map _ (numF S.files (nget (durOf S.dur (S.pend.take (crashN S n))) s)) = _
    rw [hc]
    rfl
  · rw [List.contains_iff_mem]
    unfold usedL
    exact List.mem_append_left _ (List.mem_append_left _ (vals_mem h1.dir hs))
/-- behind a crash all is durable -/
theorem crash_same {K : Nat} {S : FsSt} (h : FsGood K S) (n m : Int) : (S.crash n m).filesL = (S.crash n m).durL := by
  obtain ⟨h1, _⟩ := h.durs (crashN S n)
  unfold FsSt.filesL FsSt.durL
  refine List.map_congr_left fun s hs => ?_
  have hn := (mem_keysOf h1.dir).1 hs
  obtain ⟨c, _, hsy, h2⟩ := crash_file h n m hn
  show (s, dataNo (S.crash n m).files (nget (S.crashD n) s)) = (s, durNo (S.crash n m).files (nget (S.crashD n) s))
  unfold dataNo durNo
  rw [h2]
  simp only [Prod.mk.injEq, true_and]
  rw [List.take_of_length_le (by have := (cutF_len (m := (max m 0).toNat) hsy).1; omega)]
theorem crash_least {K : Nat} {S : FsSt} (h : FsGood K S) : (S.crash 0 0).filesL = S.durL := by
  have hD : S.crashD 0 = S.dur := by
    have : crashN S 0 = 0 := by unfold crashN; omega
    unfold FsSt.crashD
    rw [this]
    simp [durOf]
  unfold FsSt.filesL FsSt.durL
  rw [(crash_names S 0 0).1, hD]
  refine List.map_congr_left fun s hs => ?_
  have hn := (mem_keysOf h.dd).1 hs
  obtain ⟨c, h1, hsy, h2⟩ := crash_file h 0 0 (s := s) (by rw [hD]; exact hn)
  rw [hD] at h1 h2
  unfold dataNo durNo
  rw [h1, h2]
  simp only [Prod.mk.injEq, true_and]
  unfold cutF
  simp
theorem crash_again {K : Nat} {S : FsSt} (h : FsGood K S) (n m a b : Int) : ((S.crash n m).crash a b).filesL = (S.crash n m).filesL := by
  have hD : (S.crash n m).crashD a = S.crashD n := by
    unfold FsSt.crashD
    rw [(crash_names S n m).2.2.1, (crash_names S n m).2.1]
    simp [durOf, FsSt.crashD]
  obtain ⟨h1, _⟩ := h.durs (crashN S n)
  unfold FsSt.filesL
  rw [(crash_names _ a b).1, hD, (crash_names S n m).1]
  refine List.map_congr_left fun s hs => ?_
  have hn := (mem_keysOf h1.dir).1 hs
  obtain ⟨c, _, hsy, h2⟩ := crash_file h n m hn
  obtain ⟨c', h3, _, h4⟩ := crash_file (good_crash h n m) a b (s := s) (by rw [hD]; exact hn)
  rw [hD, h2] at h3
  cases h3
  rw [hD] at h4
  unfold dataNo
  rw [h4, h2, cutF_again (cutF_len hsy).1]
/-- no names kept by chance: the durable ones, some bytes more -/
theorem crash_none {K : Nat} {S : FsSt} (h : FsGood K S) {n : Int} (hn : n ≤ 0) (m : Int) :
    (S.crash n m).filesL.length = S.durL.length ∧ ∀ i, i < S.durL.length → ((S.crash n m).filesL.getD i noFl).1 = (S.durL.getD i noFl).1 ∧ (S.durL.getD i noFl).2.length ≤ ((S.crash n m).filesL.getD i noFl).2.length ∧
      (((S.crash n m).filesL.getD i noFl).2.length : Int) - (S.durL.getD i noFl).2.length ≤ max m 0 ∧ ((S.crash n m).filesL.getD i noFl).2.take (S.durL.getD i noFl).2.length = (S.durL.getD i noFl).2 := by
  have hD : S.crashD n = S.dur := by
    have : crashN S n = 0 := by unfold crashN; omega
    unfold FsSt.crashD
    rw [this]
    simp [durOf]
  unfold FsSt.filesL FsSt.durL
  rw [(crash_names S n m).1, hD]
  refine ⟨by simp, fun i hi => ?_⟩
  have hi' : i < (keysOf S.dur).length := by simpa using hi
  have e1 : ((keysOf S.dur).map fun s => (s, dataNo (S.crash n m).files (nget S.dur s))).getD i noFl = ((keysOf S.dur)[i], dataNo (S.crash n m).files (nget S.dur (keysOf S.dur)[i])) := by
    rw [List.getD_eq_getElem?_getD, List.getElem?_map, List.getElem?_eq_getElem hi']; rfl
  have e2 : ((keysOf S.dur).map fun s => (s, durNo S.files (nget S.dur s))).getD i noFl = ((keysOf S.dur)[i], durNo S.files (nget S.dur (keysOf S.dur)[i])) := by
    rw [List.getD_eq_getElem?_getD, List.getElem?_map, List.getElem?_eq_getElem hi']; rfl
  rw [e1, e2]
  generalize hs : (keysOf S.dur)[i] = s
  have hn := (mem_keysOf h.dd).1 (show s ∈ keysOf S.dur by rw [← hs]; exact List.getElem_mem hi')
  obtain ⟨c, h1, hsy, h2⟩ := crash_file h n m (s := s) (by rw [hD]; exact hn)
  rw [hD] at h1 h2
  unfold dataNo durNo
  rw [h1, h2]
  obtain ⟨k1, k2, k3, k4⟩ := cutF_len (m := (max m 0).toNat) hsy
  have k5 : (c.d.take c.sy).length = c.sy := by rw [List.length_take]; omega
  refine ⟨rfl, ?_, ?_, ?_⟩
  · show (c.d.take c.sy).length ≤ (cutF _ c).d.length
    omega
  · show ((cutF _ c).d.length : Int) - (c.d.take c.sy).length ≤ max m 0
    omega
  · show (cutF _ c).d.take (c.d.take c.sy).length = c.d.take c.sy
    rw [k5]
    exact k3
end Go.Proofs.YtaolddgnannojaaGreatDoor
