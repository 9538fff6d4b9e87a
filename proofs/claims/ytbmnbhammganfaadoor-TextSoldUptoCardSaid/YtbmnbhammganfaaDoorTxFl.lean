/-
  Files in memory, as a list; SameFiles.
-/
import Derived.Test.YtbmnbhammganfaaDoorTxAbs
import Derived.Test.YtbmnbhammganfaaDoorTxOwn
import Derived.Deep.RegionHeld3
namespace Go.Proofs.YtbmnbhammganfaaDoor
open Go.RowKit

set_option linter.unusedSimpArgs false

attribute [local go_sem] lt1 lt2 lt3 lt4 lt5 lt6

theorem flat_at {k : Nat} : ∀ {cs : List (List Value)} {i : Nat} {c : List Value} (_ : ∀ c ∈ cs, c.length = k) (_ : cs[i]? = some c) {j : Nat} (_ : j < k), cs.flatten[i * k + j]? = c[j]?
  | [], i, c, _, hi, j, _ => by simp at hi
  | d :: cs, 0, c, hl, hi, j, hj => by
    simp at hi
    subst hi
    have := hl d (by simp)
    simp [List.getElem?_append, this, hj]
  | d :: cs, i + 1, c, hl, hi, j, hj => by
    have hd := hl d (by simp)
    have ih := flat_at (cs := cs) (i := i) (c := c) (fun c hc => hl c (by simp [hc])) (by simpa using hi) hj
    have hm : (i + 1) * k + j = k + (i * k + j) := by rw [Nat.succ_mul]; omega
    rw [List.flatten_cons, hm, List.getElem?_append_right (by omega), hd, Nat.add_sub_cancel_left]
    exact ih
/-- a file: its name, its bytes -/
abbrev Fl : Type := ByteArray × List UInt8
def noFl : Fl := (⟨#[]⟩, [])
/-- a file's two cells, its bytes lying in w -/
def CFl (w : World) (c : List Value) (p : Fl) : Prop := ∃ Ai ci, c = [.string p.1, .slice Ai p.2.length ci] ∧ Bs w Ai ci p.2
theorem CFl.keep {w w' : World} (hc : Cells w w') {c : List Value} {p : Fl} (h : CFl w c p) : CFl w' c p := by
  obtain ⟨Ai, ci, h1, h2⟩ := h
  exact ⟨Ai, ci, h1, h2.keep hc⟩
theorem CFl.len {w : World} {c : List Value} {p : Fl} (h : CFl w c p) : c.length = 2 := by
  obtain ⟨_, _, rfl, _⟩ := h
  rfl
theorem CFl.one {w : World} {c : List Value} {p : Fl} (h : CFl w c p) : ∀ v ∈ c, v.oneCell' = true := by
  obtain ⟨_, _, rfl, _⟩ := h
  intro v hv
  simp only [List.mem_cons, List.not_mem_nil, or_false] at hv
  rcases hv with rfl | rfl <;> rfl
theorem All2.at_ {α β : Type} {Q : α → β → Prop} : ∀ {l : List α} {m : List β} {i : Nat} {b : β}, All2 Q l m → m[i]? = some b → ∃ a, l[i]? = some a ∧ Q a b
  | [], [], i, b, _, hi => by simp at hi
  | a :: l, c :: m, 0, b, h, hi => by
    simp at hi
    subst hi
    exact ⟨a, rfl, h.1⟩
  | a :: l, c :: m, i + 1, b, h, hi => by
    simp only [List.getElem?_cons_succ] at hi ⊢
    exact All2.at_ h.2 hi
  | [], _ :: _, _, _, h, _ => h.elim
  | _ :: _, [], _, _, h, _ => h.elim
theorem All2.forall_left {α β : Type} {Q : α → β → Prop} {R : α → Prop} (hR : ∀ a b, Q a b → R a) : ∀ {l : List α} {m : List β}, All2 Q l m → ∀ a ∈ l, R a
  | [], [], _, a, ha => by simp at ha
  | x :: l, y :: m, h, a, ha => by
    rcases List.mem_cons.1 ha with rfl | ha
    · exact hR _ _ h.1
    · exact All2.forall_left hR h.2 a ha
  | [], _ :: _, h, _, _ => h.elim
  | _ :: _, [], h, _, _ => h.elim
theorem flat_len {k : Nat} : ∀ {cs : List (List Value)} (_ : ∀ c ∈ cs, c.length = k), cs.flatten.length = cs.length * k
  | [], _ => by simp
  | a :: cs, h => by
    rw [List.flatten_cons, List.length_append, h a (by simp), flat_len (fun c hc => h c (by simp [hc])), List.length_cons, Nat.add_mul]
    omega
/-- (A, cap) is a slice of the files ps -/
structure FlAt (w : World) (A : Option Addr) (cap : Nat) (ps : List Fl) : Prop where
  nil : A = none → ps = [] ∧ cap = 0
  le : ps.length ≤ cap
  big : cap ≤ maxLen
  cells : 0 < ps.length → ∃ b o, A = some ⟨b, o, none⟩ ∧ ∀ i p, ps[i]? = some p → w.cell? ⟨b, o + i * 2, none⟩ = some (.string p.1) ∧
    ∃ Ai ci, w.cell? ⟨b, o + i * 2 + 1, none⟩ = some (.slice Ai p.2.length ci) ∧ Bs w Ai ci p.2
theorem FlAt.keep {w w' : World} {A : Option Addr} {cap : Nat} {ps : List Fl} (h : FlAt w A cap ps) (hc : Cells w w') : FlAt w' A cap ps :=
  ⟨h.nil, h.le, h.big, fun hp => by
    obtain ⟨b, o, rfl, hx⟩ := h.cells hp
    refine ⟨b, o, rfl, fun i p hi => ?_⟩
    obtain ⟨h1, Ai, ci, h4, h5⟩ := hx i p hi
    exact ⟨hc _ _ h1, Ai, ci, hc _ _ h4, h5.keep hc⟩⟩
theorem FlAt.below {w w' : World} {A : Option Addr} {cap : Nat} {ps : List Fl} (h : FlAt w A cap ps) (hb : Below w.heap.size w w') : FlAt w' A cap ps := h.keep (Cells.of_below hb)
theorem fl_getD {ps : List Fl} {i : Nat} (h : i < ps.length) : ps[i]? = some (ps.getD i noFl) := by
  rw [List.getD_eq_getElem?_getD, List.getElem?_eq_getElem h]; rfl
/-- the file at place i, in memory -/
theorem FlAt.at_ {w : World} {A : Option Addr} {cap : Nat} {ps : List Fl} (h : FlAt w A cap ps) {i : Nat} (hi : i < ps.length) :
    ∃ b o Ai ci, A = some ⟨b, o, none⟩ ∧ w.cell? ⟨b, o + i * 2, none⟩ = some (.string (ps.getD i noFl).1) ∧ w.cell? ⟨b, o + i * 2 + 1, none⟩ = some (.slice Ai (ps.getD i noFl).2.length ci) ∧ Bs w Ai ci (ps.getD i noFl).2 := by
  obtain ⟨b, o, rfl, hx⟩ := h.cells (by omega)
  obtain ⟨h1, Ai, ci, h2, h3⟩ := hx i _ (fl_getD hi)
  exact ⟨b, o, Ai, ci, rfl, h1, h2, h3⟩
/-- the row of the files ps, of the call's own -/
def FlOwn (w : World) (base : Nat) (v : Value) (ps : List Fl) : Prop := ∃ cs, All2 (CFl w) cs ps ∧ w.ownsRow base 67 2 v ps.length cs.flatten
theorem FlOwn.nil (w : World) (base : Nat) : FlOwn w base (.slice none 0 0) [] := ⟨[], trivial, World.ownsRow_nil _ _ _ _⟩
theorem FlOwn.files {w : World} {base : Nat} {v : Value} {ps : List Fl} (h : FlOwn w base v ps) : ∃ A c, v = .slice A ps.length c ∧ FlAt w A c ps := by
  obtain ⟨cs, h1, h2⟩ := h
  obtain ⟨A, c, rfl, hn, hA, hnc, hcm⟩ := own_form h2
  refine ⟨A, c, rfl, fun h => ?_, hnc, hcm, fun hp => ?_⟩
  · obtain ⟨e1, e2⟩ := hn h
    exact ⟨List.eq_nil_of_length_eq_zero e1, e2⟩
  · cases A with
    | none => have := (hn rfl).1; omega
    | some a =>
      obtain ⟨g, rfl⟩ := hA a rfl
      refine ⟨g, 0, rfl, fun i p hi => ?_⟩
      obtain ⟨c', hc, Ai, ci, rfl, hbs⟩ := h1.at_ hi
      have hk : ∀ c ∈ cs, c.length = 2 := h1.forall_left fun c p hh => hh.len
      refine ⟨?_, Ai, ci, ?_, hbs⟩
      · rw [Nat.zero_add]
        refine own_cell h2 ?_
        rw [show i * 2 = i * 2 + 0 by omega, flat_at hk hc (by omega)]; rfl
      · rw [Nat.zero_add]
        refine own_cell h2 ?_
        rw [flat_at hk hc (by omega)]; rfl
theorem FlOwn.keep {w w' : World} {base : Nat} {v : Value} {ps : List Fl} (h : FlOwn w base v ps) (hc : Cells w w') (hk : ∀ (g : Nat) (cs : Array Value), w.heap[g]? = some (.cells cs 67 (0, 0)) → w'.heap[g]? = some (.cells cs 67 (0, 0))) : FlOwn w' base v ps := by
  obtain ⟨cs, h1, h2⟩ := h
  exact ⟨cs, h1.mono fun _ _ hh => hh.keep hc, own_keep h2 hk⟩
theorem FlOwn.below {w w' : World} {base : Nat} {v : Value} {ps : List Fl} (h : FlOwn w base v ps) (hb : Below w.heap.size w w') : FlOwn w' base v ps :=
  h.keep (Cells.of_below hb) fun g _ hg => (hb.block g (lt_of_heap hg)).trans hg
theorem FlOwn.base {w : World} {base base' : Nat} {v : Value} {ps : List Fl} (h : FlOwn w base v ps) (hb : base' ≤ base) : FlOwn w base' v ps := by
  obtain ⟨cs, h1, h2⟩ := h
  exact ⟨cs, h1, own_base h2 hb⟩
theorem infoFile : (Tryd.prog.info? 67).map (fun i => (i.zero, i.size, i.bytes)) = some (some (.agg #[.string ⟨#[]⟩, .slice none 0 0]), 2, 40) := by kernel_rfl
theorem snoc_file {w : World} {ps : List Fl} {cs : List (List Value)} (h : All2 (CFl w) cs ps) {c : List Value} {p : Fl} (hc : CFl w c p) : All2 (CFl w) (cs ++ [c]) (ps ++ [p]) := All2.append hc h
theorem take_getD {ps : List Fl} {i : Nat} (h : i < ps.length) : ps.take (i + 1) = ps.take i ++ [ps.getD i noFl] := by
  rw [List.take_succ_eq_append_getElem h]
  simp [List.getD_eq_getElem?_getD, h]

def SmFRel (x y : List Fl) (w : World) (i : Value) (wr : World) : Prop := ∃ k : Nat, k ≤ x.length ∧ i = .int .i64 k ∧ x.take k = y.take k ∧ ∃ n, wr = w.drewN n
set_option maxHeartbeats 2000000 in
set_option maxRecDepth 100000 in
theorem samef_any (x y : List Fl) (A1 A2 : Option Addr) (c1 c2 : Nat) (w : World) (h1 : FlAt w A1 c1 x) (h2 : FlAt w A2 c2 y) :
    Calls Tryd.prog 31 #[.slice A1 x.length c1, .slice A2 y.length c2] w fun e w' => e = .returned (.bool (decide (x = y))) ∧ ∃ n, w' = w.drewN n := by
  have hx : x.length ≤ 9223372036854775807 := by have h3 := h1.le; have h4 := h1.big; unfold maxLen at h4; omega
  have hy : y.length ≤ 9223372036854775807 := by have h3 := h2.le; have h4 := h2.big; unfold maxLen at h4; omega
  have H1 := Lib.hid h1
  have H2 := Lib.hid h2
  clear h1 h2
  by_cases hl : x.length = y.length
  · have Hl := Lib.hid hl
    clear hl
    have hb : ((x.length : Int) != y.length) = false := by simp [Hl.out]
    go_enter Tryd.func31, Tryd.ntmps31
    go_wp2
    go_loopw [5] (fun i wr => SmFRel x y w i wr) (fun i _ => x.length - (intOf i).toNat)
    case atStart => exact ⟨0, by omega, rfl, rfl, 0, rfl⟩
    case round =>
      obtain ⟨k, hk, rfl, hkk, hwr⟩ := hrel
      have Hkk := Lib.hid hkk
      have Hwr := Lib.hid hwr
      have Hwd : Hid (∀ m, ∃ n, wr.drewN m = w.drewN n) := Lib.hid fun m => by obtain ⟨n, rfl⟩ := hwr; exact ⟨_, World.drewN_drewN _ _ _⟩
      have hcw : Cells w wr := by obtain ⟨n, rfl⟩ := hwr; exact fun _ _ h => h
      have H1' := Lib.hid (H1.out.keep hcw)
      have H2' := Lib.hid (H2.out.keep hcw)
      clear hkk hwr hcw
      have hkr : (0 : Int) ≤ k := by omega
      by_cases hlt : k < x.length
      · have hlt2 : k < y.length := by have := Hl.out; omega
        have hk1 : (k : Int) < x.length := by omega
        have hk2 : (k : Int) < y.length := by omega
        obtain ⟨b1, o1, B1, d1, hA1, g1, g1', hb1⟩ := H1'.out.at_ hlt
        obtain ⟨b2, o2, B2, d2, hA2, g2, g2', hb2⟩ := H2'.out.at_ hlt2
        subst hA1 hA2
        have Htk := Lib.hid (And.intro (take_getD hlt) (take_getD hlt2))
        have Hne : Hid (x.getD k noFl ≠ y.getD k noFl → x ≠ y) := Lib.hid fun h e => h (by rw [e])
        obtain ⟨p, hp⟩ : ∃ p, p = x.getD k noFl := ⟨_, rfl⟩
        obtain ⟨q, hq⟩ : ∃ q, q = y.getD k noFl := ⟨_, rfl⟩
        rw [← hp] at g1 g1' hb1 Htk Hne
        rw [← hq] at g2 g2' hb2 Htk Hne
        clear hp hq
        have hne := str_eq p.1 q.1
        by_cases he : p.1 = q.1
        · rw [decide_eq_true he] at hne
          have hs := fun m => same_any p.2 q.2 B1 B2 d1 d2 (wr.drewN m) (hb1.keep fun _ _ h => h) (hb2.keep fun _ _ h => h)
          by_cases he2 : p.2 = q.2
          · have hbb : (p.2 == q.2) = true := by rw [he2]; exact BEq.rfl
            rw [hbb] at hs
            have Hpq : Hid (p = q) := Lib.hid (Prod.ext he he2)
            clear he he2 hbb hb1 hb2
            go_wp2_with fail
            go_quiet ((go_at_call 30; with_reducible exact Calls.quiet_of (hs _)))
            go_wp2
            go_roundw
            case rel =>
              refine ⟨k + 1, by omega, by go_num, ?_, Hwd.out _⟩
              rw [Htk.out.1, Htk.out.2, Hkk.out, Hpq.out]
            case measure => simp [intOf]; omega
          · have hbb : (p.2 == q.2) = false := beq_eq_false_iff_ne.2 he2
            rw [hbb] at hs
            have Hpq : Hid (p ≠ q) := Lib.hid fun e => he2 (by rw [e])
            clear he he2 hbb hb1 hb2
            go_wp2_with fail
            go_quiet ((go_at_call 30; with_reducible exact Calls.quiet_of (hs _)))
            go_wp2
            go_ret
            exact ⟨ret_bool (decide_eq_false (Hne.out Hpq.out)).symm, Hwd.out _⟩
        · rw [decide_eq_false he] at hne
          have Hpq : Hid (p ≠ q) := Lib.hid fun e => he (by rw [e])
          clear he hb1 hb2
          go_wp2_with fail
          go_quiet (fail)
          go_wp2
          go_ret
          exact ⟨ret_bool (decide_eq_false (Hne.out Hpq.out)).symm, Hwd.out _⟩
      · go_wp2
        go_ret
        refine ⟨ret_bool (decide_eq_true ?_).symm, Hwr.out⟩
        have h3 := Hkk.out
        have h4 := Hl.out
        rw [List.take_of_length_le (by omega), List.take_of_length_le (by omega)] at h3
        exact h3
  · have hb : ((x.length : Int) != y.length) = true := by rw [bne_iff_ne]; omega
    have Hl := Lib.hid hl
    clear hl
    go_enter Tryd.func31, Tryd.ntmps31
    go_wp2
    go_ret
    exact ⟨ret_bool (decide_eq_false fun e => Hl.out (by rw [e])).symm, 0, rfl⟩
/-! ### few -/
def sumFl : List Fl → Nat
  | [] => 0
  | p :: l => p.2.length + p.1.size + sumFl l
theorem sumFl_append (a b : List Fl) : sumFl (a ++ b) = sumFl a + sumFl b := by
  induction a with
  | nil => simp [sumFl]
  | cons p a ih => rw [List.cons_append, sumFl, sumFl, ih]; omega
theorem sumFl_take {l : List Fl} {i : Nat} (h : i < l.length) : sumFl (l.take (i + 1)) = sumFl (l.take i) + ((l.getD i noFl).2.length + (l.getD i noFl).1.size) := by
  rw [take_getD h, sumFl_append]
  simp [sumFl]
theorem sumFl_take_le (l : List Fl) (i : Nat) : sumFl (l.take i) ≤ sumFl l := by
  conv => rhs; rw [← List.take_append_drop i l, sumFl_append]
  omega
def FewfRel (l : List Fl) (most : Nat) (nv iv : Value) : Prop := ∃ i, i ≤ l.length ∧ iv = .int .i64 (i : Nat) ∧ nv = .int .i64 (sumFl (l.take i) : Nat) ∧ sumFl (l.take i) ≤ most
set_option maxHeartbeats 2000000 in
set_option maxRecDepth 100000 in
theorem fewf_any (w : World) (A : Option Addr) (c : Nat) (l : List Fl) (most : Nat) (hm : most ≤ 1048576) (hf : FlAt w A c l) (hs : ∀ p ∈ l, p.1.size ≤ maxLen) :
    Calls Tryd.prog 23 #[.slice A l.length c, .int .i64 (most : Nat)] w fun e w' => e = .returned (.bool (decide (sumFl l ≤ most))) ∧ w = w' := by
  have hll : l.length ≤ 9223372036854775807 := by have h1 := hf.le; have h2 := hf.big; unfold maxLen at h2; omega
  have Hf := Lib.hid hf
  have Hs := Lib.hid hs
  clear hf hs
  go_enter Tryd.func23, Tryd.ntmps23
  go_wp2_with fail
  go_loop [5, 6] (fun nv iv => FewfRel l most nv iv) (fun _ iv => l.length - (intOf iv).toNat)
  case atStart => exact ⟨0, by omega, rfl, rfl, by simp [sumFl]⟩
  case round =>
    obtain ⟨i, hi, rfl, rfl, hn⟩ := hrel
    have hir : (0 : Int) ≤ i := by omega
    by_cases hlt : i < l.length
    · have hlI : (i : Int) < l.length := by omega
      obtain ⟨bb, oo, Ai, ci, rfl, g1, g2, hb⟩ := Hf.out.at_ hlt
      have hst := sumFl_take hlt
      have hle := sumFl_take_le l (i + 1)
      have hdl := hb.len_le
      have hps := Hs.out _ (List.mem_of_getElem? (fl_getD hlt))
      unfold maxLen at hps
      clear hb
      generalize l.getD i noFl = p at *
      generalize sumFl (l.take i) = n at *
      have hn0 : (0 : Int) ≤ (most : Int) - n := by omega
      by_cases h1 : p.2.length + n ≤ most
      · have hI1 : (p.2.length : Int) ≤ (most : Int) - n := by omega
        have hI0 : ((n : Int) + p.2.length) ≤ 1048576 := by omega
        have hn1 : (0 : Int) ≤ (most : Int) - (n + p.2.length) := by omega
        by_cases h2 : p.1.size + (n + p.2.length) ≤ most
        · have hI2 : (p.1.size : Int) ≤ (most : Int) - ((n : Int) + p.2.length) := by omega
          have Hfin : Hid (FewfRel l most (.int .i64 ((n : Int) + p.2.length + p.1.size)) (.int .i64 ((i : Int) + 1))) := Lib.hid ⟨i + 1, by omega, rfl, by congr 1; omega, by omega⟩
          clear hst hle
          go_wp2_with fail
          exact ⟨Hfin.out, by simp [intOf]; omega⟩
        · have hI2 : (most : Int) - ((n : Int) + p.2.length) < (p.1.size : Int) := by omega
          have Hd : Hid (decide (sumFl l ≤ most) = false) := Lib.hid (decide_eq_false (by omega))
          clear hst hle
          go_wp2_with fail
          go_ret
          exact ⟨ret_bool Hd.out.symm, rfl⟩
      · have hI1 : (most : Int) - n < (p.2.length : Int) := by omega
        have Hd : Hid (decide (sumFl l ≤ most) = false) := Lib.hid (decide_eq_false (by omega))
        clear hst hle
        go_wp2_with fail
        go_ret
        exact ⟨ret_bool Hd.out.symm, rfl⟩
    · obtain rfl : i = l.length := by omega
      rw [List.take_length] at hn
      have Hd : Hid (decide (sumFl l ≤ most) = true) := Lib.hid (decide_eq_true hn)
      clear hn
      go_wp2_with fail
      go_ret
      exact ⟨ret_bool Hd.out.symm, rfl⟩
end Go.Proofs.YtbmnbhammganfaaDoor
