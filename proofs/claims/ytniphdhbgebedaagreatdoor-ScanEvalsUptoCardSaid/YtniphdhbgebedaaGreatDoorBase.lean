/-
  Words for memory that all walks of this seat use: a slice that reads as a list; frames; a map block that reads as a list of pairs.
-/
import Derived.Test.YtniphdhbgebedaaGreatDoorProg
import Derived.WalkKit
import Derived.WalkLawsBesides
import Derived.WalkSpells
import Derived.Lib.Hide
import Derived.Maps.Own
import Derived.Maps.OwnSet
import Derived.Maps.Range
import Derived.Deep.Draws
import Derived.DeepKeys4
namespace Go.Proofs.YtniphdhbgebedaaGreatDoor
open Go.RowKit Go.MapKept Go.Maps Go.ChangeMaps

/-! ### endings -/
theorem ret_bool {a b : Bool} (h : a = b) : Ending.returned (.bool a) = .returned (.bool b) := by rw [h]
theorem ret_int {a b : Int} (h : a = b) : Ending.returned (.int .i64 a) = .returned (.int .i64 b) := by rw [h]

/-! ### frames: only the blocks of S may have turned -/
structure Fr (S : List Nat) (w w' : World) : Prop where
  os : w'.os = w.os
  tape : w'.tape = w.tape
  output : w'.output = w.output
  size : w.heap.size ≤ w'.heap.size
  block : ∀ k, k < w.heap.size → k ∉ S → w'.heap[k]? = w.heap[k]?

theorem Fr.refl (S : List Nat) (w : World) : Fr S w w := ⟨rfl, rfl, rfl, Nat.le_refl _, fun _ _ _ => rfl⟩
theorem Fr.trans {S : List Nat} {a b c : World} (h : Fr S a b) (k : Fr S b c) : Fr S a c :=
  ⟨k.os.trans h.os, k.tape.trans h.tape, k.output.trans h.output, Nat.le_trans h.size k.size, fun i hi hn => (k.block i (Nat.lt_of_lt_of_le hi h.size) hn).trans (h.block i hi hn)⟩
theorem Fr.more {S S' : List Nat} {w w' : World} (h : Fr S w w') (hs : ∀ k, k ∈ S → k ∈ S') : Fr S' w w' :=
  ⟨h.os, h.tape, h.output, h.size, fun k hk hn => h.block k hk fun hh => hn (hs k hh)⟩
theorem Fr.of_below {w w' : World} (h : Below w.heap.size w w') (S : List Nat) : Fr S w w' := ⟨h.os, h.tape, h.output, h.size, fun k hk _ => h.block k hk⟩
theorem Fr.drewN {S : List Nat} {w w' : World} (h : Fr S w w') (n : Nat) : Fr S w (w'.drewN n) := ⟨h.os, h.tape, h.output, h.size, h.block⟩
theorem Fr.below {S : List Nat} {w w' : World} (h : Fr S w w') {B : Nat} (hB : B ≤ w.heap.size) (hS : ∀ k, k ∈ S → B ≤ k) : Below B w w' :=
  ⟨h.os, h.tape, h.output, h.size, fun k hk => h.block k (by omega) fun hh => by have := hS k hh; omega⟩
/-- what a call made anew may turn besides -/
theorem Fr.fresh {S : List Nat} {g : Nat} {a b c : World} (h : Fr S a b) (hg : a.heap.size ≤ g) (k : Fr (g :: S) b c) : Fr S a c :=
  ⟨k.os.trans h.os, k.tape.trans h.tape, k.output.trans h.output, Nat.le_trans h.size k.size, fun i hi hn =>
    (k.block i (Nat.lt_of_lt_of_le hi h.size) (by simp only [List.mem_cons, not_or]; exact ⟨by omega, hn⟩)).trans (h.block i hi hn)⟩
theorem Fr.alloc (S : List Nat) (w : World) (o : Obj) : Fr S w (w.alloc o) := ⟨rfl, rfl, rfl, by simp, fun k hk _ => Below.heap_alloc _ _ _ hk⟩
theorem Fr.setCell (S : List Nat) (w : World) (a : Addr) (u : Value) (h : a.block ∈ S) : Fr S w (w.setCell a u) :=
  ⟨rfl, rfl, rfl, by simp [World.setCell], fun k _ hn => Below.heap_setCell _ _ _ _ (fun e => hn (e ▸ h))⟩
theorem Fr.setBlock (S : List Nat) (w : World) (b : Nat) (o : Obj) (h : b ∈ S) : Fr S w (setBlock w b o) :=
  ⟨rfl, rfl, rfl, by simp [ChangeMaps.setBlock], fun k _ hn => by
    have : b ≠ k := fun e => hn (e ▸ h)
    simp [ChangeMaps.setBlock, this]⟩

theorem lt_of_heap {w : World} {b : Nat} {o : Obj} (h : w.heap[b]? = some o) : b < w.heap.size := (Array.getElem?_eq_some_iff.1 h).1
theorem setBlock_same {w : World} {b : Nat} {o : Obj} (h : b < w.heap.size) : (setBlock w b o).heap[b]? = some o := by
  simp [ChangeMaps.setBlock, h]
theorem setBlock_other {w : World} {b k : Nat} {o : Obj} (h : k ≠ b) : (setBlock w b o).heap[k]? = w.heap[k]? := by
  have : b ≠ k := fun e => h e.symm
  simp [ChangeMaps.setBlock, this]

/-! ### slices -/
/-- the slice value (A, n, cap) holds the cells xs, 'size' cells an element -/
structure Sl (w : World) (A : Option Addr) (cap n size : Nat) (xs : List Value) : Prop where
  len : xs.length = n * size
  nil : A = none → n = 0 ∧ cap = 0
  le : n ≤ cap
  big : cap ≤ maxLen
  cells : 0 < n → ∃ b o, A = some ⟨b, o, none⟩ ∧ ∀ j, j < n * size → w.cell? ⟨b, o + j, none⟩ = xs[j]?

/-- every cell that is there is there still, and as it was -/
def Cells (w w' : World) : Prop := ∀ (a : Addr) v, w.cell? a = some v → w'.cell? a = some v
theorem Cells.refl (w : World) : Cells w w := fun _ _ h => h
theorem Cells.trans {a b c : World} (h : Cells a b) (k : Cells b c) : Cells a c := fun x v hx => k x v (h x v hx)
theorem Cells.of_below {w w' : World} (h : Below w.heap.size w w') : Cells w w' := fun a _ hv => (h.cell (World.block_lt_of_cell? w a hv)).trans hv
theorem Cells.drewN (w : World) (n : Nat) : Cells w (w.drewN n) := fun _ _ h => h
theorem Cells.alloc (w : World) (o : Obj) : Cells w (w.alloc o) := fun a _ hv => (World.cell?_of_block (Below.heap_alloc w o a.block (World.block_lt_of_cell? w a hv))).trans hv
/-- where the blocks that may turn are maps -/
theorem Cells.of_fr {S : List Nat} {w w' : World} (h : Fr S w w') (hm : ∀ k, k ∈ S → ∃ es c, w.heap[k]? = some (.map es c)) : Cells w w' := fun a _ hv => by
  have hlt := World.block_lt_of_cell? w a hv
  have hn : a.block ∉ S := fun hh => by
    obtain ⟨es, c, he⟩ := hm _ hh
    simp [World.cell?, he] at hv
  exact (World.cell?_of_block (h.block _ hlt hn)).trans hv

theorem Sl.keep {w w' : World} {A : Option Addr} {cap n size : Nat} {xs : List Value} (h : Sl w A cap n size xs) (hc : Cells w w') : Sl w' A cap n size xs :=
  ⟨h.len, h.nil, h.le, h.big, fun hn => by
    obtain ⟨b, o, rfl, hx⟩ := h.cells hn
    refine ⟨b, o, rfl, fun j hj => ?_⟩
    have hl : j < xs.length := by rw [h.len]; exact hj
    have := hx j hj
    rw [List.getElem?_eq_getElem hl] at this ⊢
    exact hc _ _ this⟩

/-! ### for the walk: a block that is there, behind new blocks ('attribute [local go_sem] lt1 ..') -/
theorem lt1 {a b : Nat} (h : a < b) : a < b + 1 := by omega
theorem lt2 {a b : Nat} (h : a < b) : a < b + 1 + 1 := by omega
theorem lt3 {a b : Nat} (h : a < b) : a < b + 1 + 1 + 1 := by omega
theorem lt4 {a b : Nat} (h : a < b) : a < b + 1 + 1 + 1 + 1 := by omega
theorem lt5 {a b : Nat} (h : a < b) : a < b + 1 + 1 + 1 + 1 + 1 := by omega
theorem lt6 {a b : Nat} (h : a < b) : a < b + 1 + 1 + 1 + 1 + 1 + 1 := by omega
theorem lt7 {a b : Nat} (h : a < b) : a < b + 1 + 1 + 1 + 1 + 1 + 1 + 1 := by omega
theorem lt8 {a b : Nat} (h : a < b) : a < b + 1 + 1 + 1 + 1 + 1 + 1 + 1 + 1 := by omega
theorem lt9 {a b : Nat} (h : a < b) : a < b + 1 + 1 + 1 + 1 + 1 + 1 + 1 + 1 + 1 := by omega
theorem lt10 {a b : Nat} (h : a < b) : a < b + 1 + 1 + 1 + 1 + 1 + 1 + 1 + 1 + 1 + 1 := by omega
theorem lt11 {a b : Nat} (h : a < b) : a < b + 1 + 1 + 1 + 1 + 1 + 1 + 1 + 1 + 1 + 1 + 1 := by omega
theorem lt12 {a b : Nat} (h : a < b) : a < b + 1 + 1 + 1 + 1 + 1 + 1 + 1 + 1 + 1 + 1 + 1 + 1 := by omega

/-- a block that is known whole, as the walk takes it -/
theorem blk_cells {w : World} {b : Nat} {cs : Array Value} {t : TypeId} (h : w.heap[b]? = some (.cells cs t (0, 0))) :
    (∀ i, w.cell? ⟨b, i, none⟩ = cs[i]?) ∧ (∀ i, w.frozen? ⟨b, i, none⟩ = false) ∧ b < w.heap.size :=
  ⟨fun i => by simp [World.cell?, h], fun i => by simp [World.frozen?, h], lt_of_heap h⟩
theorem heap_alloc_if (w : World) (o : Obj) (k : Nat) : (w.alloc o).heap[k]? = if k = w.heap.size then some o else w.heap[k]? := by
  simp only [World.alloc, Array.getElem?_push]
theorem heap_setCell_at {w : World} {b : Nat} {cs : Array Value} {t : TypeId} (h : w.heap[b]? = some (.cells cs t (0, 0))) (i : Nat) (v : Value) :
    (w.setCell ⟨b, i, none⟩ v).heap[b]? = some (.cells (cs.setIfInBounds i v) t (0, 0)) := by
  simp [World.setCell, Array.getElem?_modify, h]

/-! ### bytes -/
def u8s (l : List UInt8) : List Value := l.map fun c => .int .u8 c.toNat
theorem u8s_length (l : List UInt8) : (u8s l).length = l.length := by simp [u8s]
theorem u8s_at {l : List UInt8} {j : Nat} (h : j < l.length) : (u8s l)[j]? = some (.int .u8 (l.getD j 0).toNat) := by
  simp [u8s, h]
theorem u8s_one (l : List UInt8) : ∀ u ∈ u8s l, u.oneCell' = true := by
  intro u hu
  simp only [u8s, List.mem_map] at hu
  obtain ⟨c, _, rfl⟩ := hu
  rfl
/-- (A, cap) is a slice of the bytes l -/
def Bs (w : World) (A : Option Addr) (cap : Nat) (l : List UInt8) : Prop := Sl w A cap l.length 1 (u8s l)
theorem Bs.keep {w w' : World} {A : Option Addr} {cap : Nat} {l : List UInt8} (h : Bs w A cap l) (hc : Cells w w') : Bs w' A cap l := Sl.keep h hc
theorem Bs.at_ {w : World} {A : Option Addr} {cap : Nat} {l : List UInt8} (h : Bs w A cap l) {k : Nat} (hk : k < l.length) :
    ∃ b o, A = some ⟨b, o, none⟩ ∧ w.cell? ⟨b, o + k, none⟩ = some (.int .u8 (l.getD k 0).toNat) := by
  obtain ⟨b, o, rfl, hx⟩ := h.cells (by omega)
  exact ⟨b, o, rfl, (hx k (by omega)).trans (u8s_at hk)⟩
theorem Bs.len_le {w : World} {A : Option Addr} {cap : Nat} {l : List UInt8} (h : Bs w A cap l) : l.length ≤ 9223372036854775807 := by
  have h1 := h.le; have h2 := h.big; unfold maxLen at h2; omega
theorem Bs.of_block {w : World} {g c : Nat} {t : TypeId} {l : List UInt8} (h : w.heap[g]? = some (.cells (u8s l).toArray t (0, 0))) (hl : l.length ≤ c) (hc : c ≤ maxLen) : Bs w (some ⟨g, 0, none⟩) c l :=
  ⟨by simp [u8s], (by simp), hl, hc, fun _ => ⟨g, 0, rfl, fun j _ => by simp [World.cell?, h]⟩⟩
theorem Bs.none_ (w : World) : Bs w none 0 [] := ⟨by simp [u8s], by simp, by simp, by simp, by simp⟩

theorem take_succ_getD {l : List UInt8} {k : Nat} (h : k < l.length) : l.take (k + 1) = l.take k ++ [l.getD k 0] := by
  rw [List.take_succ_eq_append_getElem h]; simp [List.getD_eq_getElem?_getD, h]

/-! ### maps -/
/-- two lists stand side by side -/
def All2 {α β : Type} (Q : α → β → Prop) : List α → List β → Prop
  | [], [] => True
  | a :: l, b :: m => Q a b ∧ All2 Q l m
  | _, _ => False

theorem All2.mono {α β : Type} {Q Q' : α → β → Prop} (hq : ∀ a b, Q a b → Q' a b) : ∀ {l : List α} {m : List β}, All2 Q l m → All2 Q' l m
  | [], [], _ => trivial
  | _ :: _, _ :: _, h => ⟨hq _ _ h.1, All2.mono hq h.2⟩
  | [], _ :: _, h => h.elim
  | _ :: _, [], h => h.elim
theorem All2.append {α β : Type} {Q : α → β → Prop} {a : α} {b : β} (hq : Q a b) : ∀ {l : List α} {m : List β}, All2 Q l m → All2 Q (l ++ [a]) (m ++ [b])
  | [], [], _ => ⟨hq, trivial⟩
  | _ :: _, _ :: _, h => ⟨h.1, All2.append hq h.2⟩
  | [], _ :: _, h => h.elim
  | _ :: _, [], h => h.elim
theorem All2.length {α β : Type} {Q : α → β → Prop} : ∀ {l : List α} {m : List β}, All2 Q l m → l.length = m.length
  | [], [], _ => rfl
  | _ :: _, _ :: _, h => by simp [All2.length h.2]
  | [], _ :: _, h => h.elim
  | _ :: _, [], h => h.elim
theorem All2.maps {α β : Type} {Q Q' : α → β → Prop} {f : α → α} {g : β → β} (hq : ∀ a b, Q a b → Q' (f a) (g b)) : ∀ {l : List α} {m : List β}, All2 Q l m → All2 Q' (l.map f) (m.map g)
  | [], [], _ => trivial
  | _ :: _, _ :: _, h => ⟨hq _ _ h.1, All2.maps hq h.2⟩
  | [], _ :: _, h => h.elim
  | _ :: _, [], h => h.elim

section
variable {κ ν : Type} [DecidableEq κ]
/-- the map's object holds just the pairs of m, in the order in which they came -/
def TMap (P : Program) (k : TypeId) (o : Obj) (ek : κ → Value) (R : Value → ν → Prop) (m : List (κ × ν)) : Prop :=
  ∃ es clock, o = .map es clock ∧ Stamped es clock ∧ All2 (fun e x => e.key = ek x.1 ∧ R e.val x.2) es.toList m ∧ ∀ e ∈ es.toList, ∃ l, keyOf P k e.key = some l

/-- the value at a key -/
def look : List (κ × ν) → κ → Option ν
  | [], _ => none
  | p :: m, x => if p.1 = x then some p.2 else look m x
/-- a value laid at a key -/
def put (m : List (κ × ν)) (x : κ) (y : ν) : List (κ × ν) := if (look m x).isSome then m.map (fun p => if p.1 = x then (x, y) else p) else m ++ [(x, y)]

theorem look_append (m m' : List (κ × ν)) (x : κ) : look (m ++ m') x = (look m x).or (look m' x) := by
  induction m with
  | nil => simp [look]
  | cons p r ih => rw [List.cons_append, look, look, ih]; split <;> simp
theorem look_put (m : List (κ × ν)) (x : κ) (y : ν) (z : κ) : look (put m x y) z = if z = x then some y else look m z := by
  have aux : ∀ l : List (κ × ν), look (l.map (fun p => if p.1 = x then (x, y) else p)) z = if z = x then (look l x).map (fun _ => y) else look l z := by
    intro l
    induction l with
    | nil => simp [look]
    | cons p r ih =>
      rw [List.map_cons, look, ih, look, look]
      by_cases h1 : p.1 = x
      · by_cases h2 : z = x
        · simp [h1, h2]
        · have h3 : ¬ x = z := fun e => h2 e.symm
          simp [h1, h2, h3]
      · by_cases h2 : z = x
        · subst h2; simp [h1]
        · simp [h1, h2]
  unfold put
  split
  · rename_i h
    rw [aux]
    obtain ⟨u, hu⟩ := Option.isSome_iff_exists.1 h
    split <;> simp [hu]
  · rename_i h
    rw [look_append, look, look]
    have hn : look m x = none := by simpa using h
    by_cases h2 : z = x
    · subst h2; simp [hn]
    · have h3 : ¬ x = z := fun e => h2 e.symm
      simp [h2, h3]

theorem all2_find (ek : κ → Value) (R : Value → ν → Prop) (hinj : ∀ a b, ek a = ek b → a = b) (x : κ) :
    ∀ {l : List MapEntry} {m : List (κ × ν)}, All2 (fun e y => e.key = ek y.1 ∧ R e.val y.2) l m → l.Pairwise (fun a b => a.key ≠ b.key) →
    ((∀ e ∈ l, e.key ≠ ek x) → look m x = none) ∧ (∀ e ∈ l, e.key = ek x → ∃ y, look m x = some y ∧ R e.val y)
  | [], [], _, _ => ⟨fun _ => rfl, by simp⟩
  | [], _ :: _, h, _ => h.elim
  | _ :: _, [], h, _ => h.elim
  | e :: l, y :: m, h, hp => by
    obtain ⟨hp1, hp2⟩ := List.pairwise_cons.1 hp
    obtain ⟨i1, i2⟩ := all2_find ek R hinj x h.2 hp2
    refine ⟨fun hn => ?_, fun f hf hk => ?_⟩
    · rw [look, if_neg, i1 fun f hf => hn f (by simp [hf])]
      intro he
      exact hn e (by simp) (by rw [h.1.1, he])
    · rw [look]
      rcases List.mem_cons.1 hf with rfl | hf
      · rw [if_pos (hinj _ _ (h.1.1.symm.trans hk))]
        exact ⟨_, rfl, h.1.2⟩
      · rw [if_neg]
        · exact i2 f hf hk
        · intro he
          exact hp1 f hf (by rw [hk, h.1.1, he])

omit [DecidableEq κ] in
theorem TMap.made (P : Program) (k : TypeId) (ek : κ → Value) (R : Value → ν → Prop) : TMap P k (.map #[] 0) ek R [] :=
  ⟨#[], 0, rfl, stamped_empty 0, trivial, by simp⟩
omit [DecidableEq κ] in
theorem TMap.mono {P : Program} {k : TypeId} {o : Obj} {ek : κ → Value} {R R' : Value → ν → Prop} {m : List (κ × ν)} (h : TMap P k o ek R m) (hr : ∀ v y, R v y → R' v y) : TMap P k o ek R' m := by
  obtain ⟨es, c, rfl, hs, ha, hk⟩ := h
  exact ⟨es, c, rfl, hs, ha.mono fun _ _ hh => ⟨hh.1, hr _ _ hh.2⟩, hk⟩
omit [DecidableEq κ] in
theorem TMap.is_map {P : Program} {k : TypeId} {o : Obj} {ek : κ → Value} {R : Value → ν → Prop} {m : List (κ × ν)} (h : TMap P k o ek R m) : ∃ es c, o = .map es c := by
  obtain ⟨es, c, rfl, _⟩ := h
  exact ⟨es, c, rfl⟩

/-- what a look-up answers -/
def Looked (R : Value → ν → Prop) (z : Value) (m : List (κ × ν)) (x : κ) (v : Value) (ok : Bool) : Prop :=
  (look m x = none ∧ v = z ∧ ok = false) ∨ ∃ y, look m x = some y ∧ R v y ∧ ok = true

theorem TMap.lookup {P : Program} {k e t : TypeId} {o : Obj} {ek : κ → Value} {R : Value → ν → Prop} {m : List (κ × ν)} (h : TMap P k o ek R m) (K : Keyed P k) (ht : P.underlying t = some (.map k e))
    (hinj : ∀ a b, ek a = ek b → a = b) {z : Value} (hz : ∀ w, (zeroValue e).run P w = .ok z w) {x : κ} {kl : Lit} (hkey : keyOf P k (ek x) = some kl) :
    ∃ v ok, Looked R z m x v ok ∧ ∀ (w : World) (b : Nat) (c : Bool), w.heap[b]? = some o → (Instr.lookup t (.map (some b)) (ek x) c).run P w = .ok (if c then .tuple #[v, .bool ok] else v) w := by
  obtain ⟨es, clock, rfl, hs, ha, hk⟩ := h
  have hpw := ((stamped_iff es clock).1 hs).2.2
  obtain ⟨i1, i2⟩ := all2_find ek R hinj x ha hpw
  by_cases hex : ∃ e ∈ es.toList, e.key = ek x
  · obtain ⟨e0, he0, hk0⟩ := hex
    obtain ⟨y, hy, hR⟩ := i2 e0 he0 hk0
    refine ⟨e0.val, true, .inr ⟨y, hy, hR, rfl⟩, fun w b c hb => ?_⟩
    rcases K.find w hkey es.toList hk with ⟨_, h2⟩ | ⟨j, e1, h1, h2, h3⟩
    · exact absurd hk0 (h2 e0 he0)
    · have : e1.val = e0.val := by
        have hm := List.mem_of_getElem? h2
        rw [entry_eq_of_key hpw hm he0 (h3.trans hk0.symm)]
      simp [Instr.lookup, run_underlying ht, MapKept.run_getObj_map hb, K.check w _ hkey, h1, Result.andThen, this]
  · have hne : ∀ e ∈ es.toList, e.key ≠ ek x := fun e he hh => hex ⟨e, he, hh⟩
    refine ⟨z, false, .inl ⟨i1 hne, rfl, rfl⟩, fun w b c hb => ?_⟩
    rcases K.find w hkey es.toList hk with ⟨h1, _⟩ | ⟨j, e1, _, h2, h3⟩
    · simp [Instr.lookup, run_underlying ht, MapKept.run_getObj_map hb, K.check w _ hkey, h1, hz, Result.andThen]
    · exact absurd h3 (hne e1 (List.mem_of_getElem? h2))

theorem all2_modify (ek : κ → Value) {R R' : Value → ν → Prop} (hinj : ∀ a b, ek a = ek b → a = b) (hr : ∀ v y, R v y → R' v y) {x : κ} {y : ν} {val : Value} (hv : R' val y) :
    ∀ {l : List MapEntry} {m : List (κ × ν)} {j : Nat} {e : MapEntry}, All2 (fun e y => e.key = ek y.1 ∧ R e.val y.2) l m → l.Pairwise (fun a b => a.key ≠ b.key) → l[j]? = some e → e.key = ek x →
    All2 (fun e y => e.key = ek y.1 ∧ R' e.val y.2) (l.modify j fun e => { e with key := ek x, val := val }) (m.map fun p => if p.1 = x then (x, y) else p)
  | [], _, _, _, _, _, h, _ => by simp at h
  | _ :: _, [], _, _, h, _, _, _ => h.elim
  | e :: l, p :: m, 0, e0, h, hp, hj, hk => by
    obtain ⟨hp1, _⟩ := List.pairwise_cons.1 hp
    simp at hj
    subst hj
    have hpx : p.1 = x := hinj _ _ (h.1.1.symm.trans hk)
    refine ⟨by simp [hpx, hv], ?_⟩
    have : ∀ {l : List MapEntry} {m : List (κ × ν)}, All2 (fun e y => e.key = ek y.1 ∧ R e.val y.2) l m → (∀ f ∈ l, e.key ≠ f.key) → All2 (fun e y => e.key = ek y.1 ∧ R' e.val y.2) l (m.map fun p => if p.1 = x then (x, y) else p) := by
      intro l
      induction l with
      | nil =>
        intro m ha _
        cases m with
        | nil => exact trivial
        | cons _ _ => exact ha.elim
      | cons f l ih =>
        intro m ha hf
        cases m with
        | nil => exact ha.elim
        | cons q m =>
          refine ⟨?_, ih ha.2 fun f' hf' => hf f' (by simp [hf'])⟩
          have hq : q.1 ≠ x := fun hh => hf f (by simp) (by rw [hk, ha.1.1, hh])
          simp [hq, ha.1.1, hr _ _ ha.1.2]
    exact this h.2 hp1
  | e :: l, p :: m, j + 1, e0, h, hp, hj, hk => by
    obtain ⟨hp1, hp2⟩ := List.pairwise_cons.1 hp
    simp at hj
    have hne : p.1 ≠ x := fun hh => hp1 e0 (List.mem_of_getElem? hj) (by rw [h.1.1, hh, hk])
    refine ⟨by simp [hne, h.1.1, hr _ _ h.1.2], ?_⟩
    exact all2_modify ek hinj hr hv h.2 hp2 hj hk

theorem TMap.update {P : Program} {k e t : TypeId} {o : Obj} {ek : κ → Value} {R : Value → ν → Prop} {m : List (κ × ν)} (h : TMap P k o ek R m) (K : Keyed P k) (ht : P.underlying t = some (.map k e))
    (hinj : ∀ a b, ek a = ek b → a = b) {x : κ} {kl : Lit} (hkey : keyOf P k (ek x) = some kl) (val : Value) :
    ∃ o', (∀ (w : World) (b : Nat), w.heap[b]? = some o → (Instr.mapUpdate t (.map (some b)) (ek x) val).run P w = .ok () (setBlock w b o')) ∧
      ∀ (R' : Value → ν → Prop) y, (∀ v y, R v y → R' v y) → R' val y → TMap P k o' ek R' (put m x y) := by
  obtain ⟨es, clock, rfl, hs, ha, hk⟩ := h
  have hpw := ((stamped_iff es clock).1 hs).2.2
  obtain ⟨i1, i2⟩ := all2_find ek R hinj x ha hpw
  by_cases hex : ∃ e ∈ es.toList, e.key = ek x
  · obtain ⟨e0, he0, hk0⟩ := hex
    obtain ⟨y0, hy0, _⟩ := i2 e0 he0 hk0
    rcases K.find default hkey es.toList hk with ⟨_, h2⟩ | ⟨j, e1, _, h2, h3⟩
    · exact absurd hk0 (h2 e0 he0)
    refine ⟨.map (es.modify j fun e => { e with key := ek x, val := val }) clock, fun w b hb => ?_, fun R' y hr hv => ⟨_, _, rfl, ?_, ?_, ?_⟩⟩
    · rcases K.find w hkey es.toList hk with ⟨_, h2'⟩ | ⟨j', e1', h1', h2', h3'⟩
      · exact absurd hk0 (h2' e0 he0)
      · have hjj : j' = j := by
          have hp := List.pairwise_iff_getElem.1 hpw
          obtain ⟨hl', hg'⟩ := List.getElem?_eq_some_iff.1 h2'
          obtain ⟨hl, hg⟩ := List.getElem?_eq_some_iff.1 h2
          rcases Nat.lt_trichotomy j' j with hlt | heq | hgt
          · exact absurd (by rw [hg', hg, h3', h3]) (hp j' j hl' hl hlt)
          · exact heq
          · exact absurd (by rw [hg', hg, h3', h3]) (hp j j' hl hl' hgt)
        subst hjj
        have hat : ((es[j']?).map (·.key)).getD (ek x) = ek x := by
          rw [← Array.getElem?_toList, h2']; simp [h3']
        simp [Instr.mapUpdate, run_underlying ht, MapKept.run_getObj_map hb, K.check w false hkey, h1', hat, K.stays w hkey, MapKept.run_setObj_map _ hb, Result.andThen, ChangeMaps.setBlock]
    · refine stamped_modify hs j _ (fun _ _ => rfl) fun e _ hej => ?_
      rw [← Array.getElem?_toList, h2] at hej
      cases hej
      exact h3.symm
    · unfold put
      rw [hy0, if_pos (by rfl), Array.toList_modify]
      exact all2_modify ek hinj hr hv ha hpw h2 h3
    · intro e he
      rw [Array.toList_modify] at he
      obtain ⟨i, hi, rfl⟩ := List.getElem_of_mem he
      rw [List.getElem_modify]
      split
      · exact ⟨_, hkey⟩
      · exact hk _ (List.getElem_mem _)
  · have hne : ∀ e ∈ es.toList, e.key ≠ ek x := fun e he hh => hex ⟨e, he, hh⟩
    refine ⟨.map (es.push ⟨ek x, val, clock⟩) (clock + 1), fun w b hb => ?_, fun R' y hr hv => ⟨_, _, rfl, stamped_push hs hne, ?_, ?_⟩⟩
    · rcases K.find w hkey es.toList hk with ⟨h1, _⟩ | ⟨j, e1, _, h2, h3⟩
      · simp [Instr.mapUpdate, run_underlying ht, MapKept.run_getObj_map hb, K.check w false hkey, h1, MapKept.run_setObj_map _ hb, Result.andThen, ChangeMaps.setBlock]
      · exact absurd h3 (hne e1 (List.mem_of_getElem? h2))
    · unfold put
      rw [i1 hne, if_neg (by simp), Array.toList_push]
      exact (ha.mono fun _ _ hh => ⟨hh.1, hr _ _ hh.2⟩).append ⟨rfl, hv⟩
    · intro e he
      simp only [Array.toList_push, List.mem_append, List.mem_singleton] at he
      rcases he with he | rfl
      · exact hk e he
      · exact ⟨_, hkey⟩

/-- 'm[k] = v', and a literal's entry, at the operation. -/
theorem wpList_put {P : Program} (w : World) {ops : Array Oper} {rest : List Oper} {o : Oper} {a : Act} {Q : Exit → Act → World → Prop} (hg : o.guard = none) (mo xo vo : Operand) {t : TypeId}
    (hop : o.op = Op.mapUpdate t mo xo vo ∨ o.op = Op.insert t mo xo vo) {k e : TypeId} {ob : Obj} {ek : κ → Value} {R : Value → ν → Prop} {m : List (κ × ν)} {b : Nat} (hm : a.eval mo = .map (some b)) (hb : w.heap[b]? = some ob)
    (h : TMap P k ob ek R m) (K : Keyed P k) (ht : P.underlying t = some (.map k e)) (hinj : ∀ a b, ek a = ek b → a = b) {x : κ} (hx : a.eval xo = ek x) {kl : Lit} (hkey : keyOf P k (ek x) = some kl) {val : Value} (hv : a.eval vo = val)
    (hK : ∀ w' o', w'.heap[b]? = some o' → Fr [b] w w' → (∀ (R' : Value → ν → Prop) y, (∀ v y, R v y → R' v y) → R' val y → TMap P k o' ek R' (put m x y)) → wpList P ops Q rest (a.put o.dst undef) w') :
    wpList P ops Q (o :: rest) a w := by
  refine wpList_plain hg fun K' hK' => ?_
  obtain ⟨o', hrun, hT⟩ := h.update K ht hinj hkey val
  have hr := hrun w b hb
  have hK2 := hK _ _ (setBlock_same (lt_of_heap hb)) (Fr.setBlock [b] w b o' (by simp)) hT
  unfold Oper.wp
  rcases hop with hop | hop
  · simp [execOp, hop, hm, hx, hv, hr, Result.andThen]
    exact hK' _ _ hK2
  · simp [execOp, hop, hm, hx, hv, hr, Result.andThen]
    exact hK' _ _ hK2

end
end Go.Proofs.YtniphdhbgebedaaGreatDoor
