/-
  Files in memory: a slice of names and bytes.
-/
import Derived.Test.YtdmladdpbdcpjaaDoorArkNmA
import Derived.Deep.RegionHeld3
namespace Go.Proofs.YtdmladdpbdcpjaaDoor
open Go.RowKit

attribute [local go_sem] lt1 lt2 lt3 lt4 lt5 lt6

/-- a file: its name, its bytes -/
abbrev Fl : Type := ByteArray × List UInt8
def noFl : Fl := (⟨#[]⟩, [])
/-- a file's two cells, its bytes lying in w -/
def CFl (w : World) (c : List Value) (p : Fl) : Prop := ∃ Ai ci, c = [.string p.1, .slice Ai p.2.length ci] ∧ Bs w Ai ci p.2
theorem CFl.keep {w w' : World} (hc : Cells w w') {c : List Value} {p : Fl} (h : CFl w c p) : CFl w' c p := by
  obtain ⟨Ai, ci, h1, h2⟩ := h
  exact ⟨Ai, ci, h1, h2.keep hc⟩
theorem CFl.len {w : World} {c : List Value} {p : Fl} (h : CFl w c p) : c.length = 2 := by
  obtain ⟨_, _, rfl, _⟩ := h
  rfl
theorem CFl.one {w : World} {c : List Value} {p : Fl} (h : CFl w c p) : ∀ v ∈ c, v.oneCell' = true := by
  obtain ⟨_, _, rfl, _⟩ := h
  intro v hv
  simp only [List.mem_cons, List.not_mem_nil, or_false] at hv
  rcases hv with rfl | rfl <;> rfl
theorem All2.at_ {α β : Type} {Q : α → β → Prop} : ∀ {l : List α} {m : List β} {i : Nat} {b : β}, All2 Q l m → m[i]? = some b → ∃ a, l[i]? = some a ∧ Q a b
  | [], [], i, b, _, hi => by simp at hi
  | a :: l, c :: m, 0, b, h, hi => by
    simp at hi
    subst hi
    exact ⟨a, rfl, h.1⟩
  | a :: l, c :: m, i + 1, b, h, hi => by
    simp only [List.getElem?_cons_succ] at hi ⊢
    exact All2.at_ h.2 hi
  | [], _ :: _, _, _, h, _ => h.elim
  | _ :: _, [], _, _, h, _ => h.elim
theorem All2.forall_left {α β : Type} {Q : α → β → Prop} {R : α → Prop} (hR : ∀ a b, Q a b → R a) : ∀ {l : List α} {m : List β}, All2 Q l m → ∀ a ∈ l, R a
  | [], [], _, a, ha => by simp at ha
  | x :: l, y :: m, h, a, ha => by
    rcases List.mem_cons.1 ha with rfl | ha
    · exact hR _ _ h.1
    · exact All2.forall_left hR h.2 a ha
  | [], _ :: _, h, _, _ => h.elim
  | _ :: _, [], h, _, _ => h.elim
theorem flat_at {k : Nat} : ∀ {cs : List (List Value)} {i : Nat} {c : List Value} (_ : ∀ c ∈ cs, c.length = k) (_ : cs[i]? = some c) {j : Nat} (_ : j < k), cs.flatten[i * k + j]? = c[j]?
  | [], i, c, _, hi, j, _ => by simp at hi
  | a :: cs, 0, c, hk, hi, j, hj => by
    simp at hi
    subst hi
    have := hk a (by simp)
    rw [List.flatten_cons, Nat.zero_mul, Nat.zero_add, List.getElem?_append_left (by omega)]
  | a :: cs, i + 1, c, hk, hi, j, hj => by
    simp at hi
    have ha := hk a (by simp)
    rw [List.flatten_cons, List.getElem?_append_right (by rw [ha, Nat.add_mul]; omega)]
    rw [ha, show (i + 1) * k + j - k = i * k + j by rw [Nat.add_mul]; omega]
    exact flat_at (fun c hc => hk c (by simp [hc])) hi hj
theorem flat_len {k : Nat} : ∀ {cs : List (List Value)} (_ : ∀ c ∈ cs, c.length = k), cs.flatten.length = cs.length * k
  | [], _ => by simp
  | a :: cs, h => by
    rw [List.flatten_cons, List.length_append, h a (by simp), flat_len (fun c hc => h c (by simp [hc])), List.length_cons, Nat.add_mul]
    omega
/-- (A, cap) is a slice of the files ps -/
structure FlAt (w : World) (A : Option Addr) (cap : Nat) (ps : List Fl) : Prop where
  nil : A = none → ps = [] ∧ cap = 0
  le : ps.length ≤ cap
  big : cap ≤ maxLen
  cells : 0 < ps.length → ∃ b o, A = some ⟨b, o, none⟩ ∧ ∀ i p, ps[i]? = some p → w.cell? ⟨b, o + i * 2, none⟩ = some (.string p.1) ∧
    ∃ Ai ci, w.cell? ⟨b, o + i * 2 + 1, none⟩ = some (.slice Ai p.2.length ci) ∧ Bs w Ai ci p.2
theorem FlAt.keep {w w' : World} {A : Option Addr} {cap : Nat} {ps : List Fl} (h : FlAt w A cap ps) (hc : Cells w w') : FlAt w' A cap ps :=
  ⟨h.nil, h.le, h.big, fun hp => by
    obtain ⟨b, o, rfl, hx⟩ := h.cells hp
    refine ⟨b, o, rfl, fun i p hi => ?_⟩
    obtain ⟨h1, Ai, ci, h4, h5⟩ := hx i p hi
    exact ⟨hc _ _ h1, Ai, ci, hc _ _ h4, h5.keep hc⟩⟩
theorem FlAt.below {w w' : World} {A : Option Addr} {cap : Nat} {ps : List Fl} (h : FlAt w A cap ps) (hb : Below w.heap.size w w') : FlAt w' A cap ps := h.keep (Cells.of_below hb)
theorem getD_some {ps : List Fl} {i : Nat} (h : i < ps.length) : ps[i]? = some (ps.getD i noFl) := by
  rw [List.getD_eq_getElem?_getD, List.getElem?_eq_getElem h]; rfl
/-- the file at place i, in memory -/
theorem FlAt.at_ {w : World} {A : Option Addr} {cap : Nat} {ps : List Fl} (h : FlAt w A cap ps) {i : Nat} (hi : i < ps.length) :
    ∃ b o Ai ci, A = some ⟨b, o, none⟩ ∧ w.cell? ⟨b, o + i * 2, none⟩ = some (.string (ps.getD i noFl).1) ∧ w.cell? ⟨b, o + i * 2 + 1, none⟩ = some (.slice Ai (ps.getD i noFl).2.length ci) ∧ Bs w Ai ci (ps.getD i noFl).2 := by
  obtain ⟨b, o, rfl, hx⟩ := h.cells (by omega)
  obtain ⟨h1, Ai, ci, h2, h3⟩ := hx i _ (getD_some hi)
  exact ⟨b, o, Ai, ci, rfl, h1, h2, h3⟩
/-- the row of the files ps, of the call's own -/
def FlOwn (w : World) (base : Nat) (v : Value) (ps : List Fl) : Prop := ∃ cs, All2 (CFl w) cs ps ∧ w.ownsRow base 46 2 v ps.length cs.flatten
theorem FlOwn.nil (w : World) (base : Nat) : FlOwn w base (.slice none 0 0) [] := ⟨[], trivial, World.ownsRow_nil _ _ _ _⟩
theorem FlOwn.files {w : World} {base : Nat} {v : Value} {ps : List Fl} (h : FlOwn w base v ps) : ∃ A c, v = .slice A ps.length c ∧ FlAt w A c ps := by
  obtain ⟨cs, h1, h2⟩ := h
  obtain ⟨A, c, rfl, hn, hA, hnc, hcm⟩ := own_form h2
  refine ⟨A, c, rfl, fun h => ?_, hnc, hcm, fun hp => ?_⟩
  · obtain ⟨e1, e2⟩ := hn h
    exact ⟨List.eq_nil_of_length_eq_zero e1, e2⟩
  · cases A with
    | none => have := (hn rfl).1; omega
    | some a =>
      obtain ⟨g, rfl⟩ := hA a rfl
      refine ⟨g, 0, rfl, fun i p hi => ?_⟩
      obtain ⟨c', hc, Ai, ci, rfl, hbs⟩ := h1.at_ hi
      have hk : ∀ c ∈ cs, c.length = 2 := h1.forall_left fun c p hh => hh.len
      refine ⟨?_, Ai, ci, ?_, hbs⟩
      · rw [Nat.zero_add]
        refine own_cell h2 ?_
        rw [show i * 2 = i * 2 + 0 by omega, flat_at hk hc (by omega)]; rfl
      · rw [Nat.zero_add]
        refine own_cell h2 ?_
        rw [flat_at hk hc (by omega)]; rfl
theorem FlOwn.keep {w w' : World} {base : Nat} {v : Value} {ps : List Fl} (h : FlOwn w base v ps) (hc : Cells w w') (hk : ∀ (g : Nat) (cs : Array Value), w.heap[g]? = some (.cells cs 46 (0, 0)) → w'.heap[g]? = some (.cells cs 46 (0, 0))) : FlOwn w' base v ps := by
  obtain ⟨cs, h1, h2⟩ := h
  exact ⟨cs, h1.mono fun _ _ hh => hh.keep hc, own_keep h2 hk⟩
theorem FlOwn.below {w w' : World} {base : Nat} {v : Value} {ps : List Fl} (h : FlOwn w base v ps) (hb : Below w.heap.size w w') : FlOwn w' base v ps :=
  h.keep (Cells.of_below hb) fun g _ hg => (hb.block g (lt_of_heap hg)).trans hg
theorem FlOwn.base {w : World} {base base' : Nat} {v : Value} {ps : List Fl} (h : FlOwn w base v ps) (hb : base' ≤ base) : FlOwn w base' v ps := by
  obtain ⟨cs, h1, h2⟩ := h
  exact ⟨cs, h1, own_base h2 hb⟩
theorem infoFile : (Tryd.prog.info? 46).map (fun i => (i.zero, i.size, i.bytes)) = some (some (.agg #[.string ⟨#[]⟩, .slice none 0 0]), 2, 40) := by kernel_rfl
theorem snoc_file {w : World} {ps : List Fl} {cs : List (List Value)} (h : All2 (CFl w) cs ps) {c : List Value} {p : Fl} (hc : CFl w c p) : All2 (CFl w) (cs ++ [c]) (ps ++ [p]) := All2.append hc h
theorem take_getD {ps : List Fl} {i : Nat} (h : i < ps.length) : ps.take (i + 1) = ps.take i ++ [ps.getD i noFl] := by
  rw [List.take_succ_eq_append_getElem h]
  simp [List.getD_eq_getElem?_getD, h]
end Go.Proofs.YtdmladdpbdcpjaaDoor
