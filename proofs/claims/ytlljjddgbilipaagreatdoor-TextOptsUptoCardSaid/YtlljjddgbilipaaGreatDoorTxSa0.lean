/-
  Plain: an act's fields written, and what is left of it; laws for said.
-/
import Derived.Test.YtlljjddgbilipaaGreatDoorTxPa0
import Derived.Test.YtlljjddgbilipaaGreatDoorTxWord
namespace Go.Proofs.YtlljjddgbilipaaGreatDoor
open Go.RowKit Go.Maps

set_option linter.unusedSimpArgs false

def getT (c : UInt8) (a : ActD) : List UInt8 := if c.toNat = 80 then a.path else if c.toNat = 86 then a.ver else if c.toNat = 110 then a.name else a.url
def getB (c : UInt8) (a : ActD) : List UInt8 := if c.toNat = 68 then a.data else a.fdata
def getN (c : UInt8) (a : ActD) : Int := if c.toNat = 78 then a.n else if c.toNat = 77 then a.m else if c.toNat = 65 then a.att else a.fn
def kindW (k : Int) : List UInt8 := match KT.find? (fun p => decide (p.1 = k)) with
  | some p => p.2
  | none => []
def inN (n : Int) : Bool := decide (-4611686018427387904 ≤ n ∧ n ≤ 4611686018427387904)
structure SaSt where
  out : List (List UInt8)
  ok : Bool
  act : ActD
def saidStep (c : UInt8) (s : SaSt) : SaSt :=
  if (tOff c).isSome then ⟨s.out ++ [writeW (getT c s.act)], s.ok, setT c [] s.act⟩
  else if (bOff c).isSome then ⟨s.out ++ [writeW (getB c s.act)], s.ok, setB c [] s.act⟩
  else if (nOff c).isSome then ⟨s.out ++ [Lib.itoa (getN c s.act)], s.ok && inN (getN c s.act), setN c 0 s.act⟩
  else if c.toNat = 75 then ⟨s.out ++ [kindW s.act.fk], s.ok, { s.act with fk := 0 }⟩
  else s
def saidF : List UInt8 → SaSt → SaSt
  | [], s => s
  | c :: r, s => saidF r (saidStep c s)
/-- an act that a call may write -/
structure ActOk (a : ActD) : Prop where
  path : a.path.length ≤ 1048576
  ver : a.ver.length ≤ 1048576
  name : a.name.length ≤ 1048576
  url : a.url.length ≤ 1048576
  data : a.data.length ≤ 1048576
  fdata : a.fdata.length ≤ 1048576
  n : -9223372036854775808 ≤ a.n ∧ a.n ≤ 9223372036854775807
  m : -9223372036854775808 ≤ a.m ∧ a.m ≤ 9223372036854775807
  att : -9223372036854775808 ≤ a.att ∧ a.att ≤ 9223372036854775807
  fn : -9223372036854775808 ≤ a.fn ∧ a.fn ≤ 9223372036854775807
  fk : -9223372036854775808 ≤ a.fk ∧ a.fk ≤ 9223372036854775807
theorem i64_z : -9223372036854775808 ≤ (0 : Int) ∧ (0 : Int) ≤ 9223372036854775807 := by decide
theorem ActOk.step {s : SaSt} (h : ActOk s.act) (c : UInt8) : ActOk (saidStep c s).act := by
  obtain ⟨h1, h2, h3, h4, h5, h6, h7, h8, h9, h10, h11⟩ := h
  unfold saidStep
  repeat' split
  · simp only [setT]
    repeat' split
    all_goals exact ⟨by simp [*], by simp [*], by simp [*], by simp [*], by simp [*], by simp [*], h7, h8, h9, h10, h11⟩
  · simp only [setB]
    repeat' split
    all_goals exact ⟨by simp [*], by simp [*], by simp [*], by simp [*], by simp [*], by simp [*], h7, h8, h9, h10, h11⟩
  · simp only [setN]
    repeat' split
    all_goals exact ⟨h1, h2, h3, h4, h5, h6, by first | exact h7 | exact i64_z, by first | exact h8 | exact i64_z, by first | exact h9 | exact i64_z, by first | exact h10 | exact i64_z, h11⟩
  · exact ⟨h1, h2, h3, h4, h5, h6, h7, h8, h9, h10, i64_z⟩
  · exact ⟨h1, h2, h3, h4, h5, h6, h7, h8, h9, h10, h11⟩
theorem ActOk.getT {a : ActD} (h : ActOk a) (c : UInt8) : (getT c a).length ≤ 1048576 := by
  unfold Go.Proofs.YtlljjddgbilipaaGreatDoor.getT
  repeat' split
  · exact h.path
  · exact h.ver
  · exact h.name
  · exact h.url
theorem ActOk.getB {a : ActD} (h : ActOk a) (c : UInt8) : (getB c a).length ≤ 1048576 := by
  unfold Go.Proofs.YtlljjddgbilipaaGreatDoor.getB
  repeat' split
  · exact h.data
  · exact h.fdata
theorem ActOk.getN {a : ActD} (h : ActOk a) (c : UInt8) : -9223372036854775808 ≤ getN c a ∧ getN c a ≤ 9223372036854775807 := by
  unfold Go.Proofs.YtlljjddgbilipaaGreatDoor.getN
  repeat' split
  · exact h.n
  · exact h.m
  · exact h.att
  · exact h.fn
theorem actV_getT {c : UInt8} {o : Nat} (h : tOff c = some o) (a : ActD) (dv fv : Value) : (actV a dv fv)[o]? = some (.string (mkS (getT c a))) := by
  rcases tOff_cases h with ⟨e, rfl⟩ | ⟨e, rfl⟩ | ⟨e, rfl⟩ | ⟨e, rfl⟩ <;> (unfold getT; rw [e]; rfl)
theorem actV_getN {c : UInt8} {o : Nat} (h : nOff c = some o) (a : ActD) (dv fv : Value) : (actV a dv fv)[o]? = some (.int .i64 (getN c a)) := by
  rcases nOff_cases h with ⟨e, rfl⟩ | ⟨e, rfl⟩ | ⟨e, rfl⟩ | ⟨e, rfl⟩ <;> (unfold getN; rw [e]; rfl)
theorem actV_getB {c : UInt8} {o : Nat} (h : bOff c = some o) (a : ActD) (dv fv : Value) : ∃ v, (actV a dv fv)[o]? = some v ∧ ∀ (Q : Value → List UInt8 → Prop), Q dv a.data → Q fv a.fdata → Q v (getB c a) := by
  rcases bOff_cases h with ⟨e, rfl⟩ | ⟨e, rfl⟩
  · exact ⟨dv, rfl, fun Q h1 _ => by unfold getB; rw [e]; exact h1⟩
  · exact ⟨fv, rfl, fun Q _ h2 => by unfold getB; rw [e]; exact h2⟩
/-- bytes that lie in none of the blocks S -/
def Dq (w : World) (S : List Nat) (v : Value) (l : List UInt8) : Prop := ∃ A c, v = .slice A l.length c ∧ Bs w A c l ∧ (0 < l.length → ∀ a, A = some a → a.block ∉ S)
theorem Dq.nil (w : World) (S : List Nat) : Dq w S nilV [] := ⟨none, 0, rfl, Bs.none_ w, by simp⟩
theorem Dq.fr {w w' : World} {S : List Nat} {v : Value} {l : List UInt8} (h : Dq w S v l) (hf : Fr S w w') : Dq w' S v l := by
  obtain ⟨A, c, h1, h2, h3⟩ := h
  refine ⟨A, c, h1, ⟨h2.len, h2.nil, h2.le, h2.big, fun hn => ?_⟩, h3⟩
  obtain ⟨b, o, rfl, hx⟩ := h2.cells hn
  refine ⟨b, o, rfl, fun j hj => ?_⟩
  have hb := h3 hn _ rfl
  have h4 := hx j hj
  have hl : j < (u8s l).length := by rw [u8s_length]; omega
  rw [List.getElem?_eq_getElem hl] at h4 ⊢
  have hlt := World.block_lt_of_cell? w _ h4
  exact (World.cell?_of_block (hf.block b hlt hb)).trans h4
theorem Dq.lt {w : World} {A : Option Addr} {c : Nat} {l : List UInt8} (h : Bs w A c l) (hn : 0 < l.length) : ∀ a, A = some a → a.block < w.heap.size := fun a ha => by
  obtain ⟨b, o, rfl, hx⟩ := h.cells hn
  cases ha
  have h4 := hx 0 (by omega)
  have hl : 0 < (u8s l).length := by rw [u8s_length]; omega
  rw [List.getElem?_eq_getElem hl] at h4
  exact World.block_lt_of_cell? w _ h4
theorem Dq.more {w : World} {b g : Nat} {v : Value} {l : List UInt8} (h : Dq w [b] v l) (hg : w.heap.size ≤ g) : Dq w [b, g] v l := by
  obtain ⟨A, c, h1, h2, h3⟩ := h
  refine ⟨A, c, h1, h2, fun hn a ha => ?_⟩
  have h4 := h3 hn a ha
  have h5 := Dq.lt h2 hn a ha
  simp at h4 ⊢
  omega
theorem Dq.of_below {w : World} {base : Nat} {v : Value} {l : List UInt8} (h : Dat w base v l) {S : List Nat} (hS : ∀ k, k ∈ S → k < base) : Dq w S v l := by
  obtain ⟨A, c, h1, h2, h3⟩ := h
  exact ⟨A, c, h1, h2, fun _ a ha hh => by have := h3 a ha; have := hS _ hh; omega⟩
theorem Dq.some {w : World} {A : Option Addr} {c : Nat} {l : List UInt8} (h : Bs w A c l) {S : List Nat} (hS : ∀ k, k ∈ S → w.heap.size ≤ k) : Dq w S (.slice A l.length c) l :=
  ⟨A, c, rfl, h, fun hn a ha hh => by have := Dq.lt h hn a ha; have := hS _ hh; omega⟩
theorem Dq.less {w : World} {S S' : List Nat} {v : Value} {l : List UInt8} (h : Dq w S v l) (hs : ∀ k, k ∈ S' → k ∈ S) : Dq w S' v l := by
  obtain ⟨A, c, h1, h2, h3⟩ := h
  exact ⟨A, c, h1, h2, fun hn a ha hh => h3 hn a ha (hs _ hh)⟩
theorem Dq.one {w : World} {S : List Nat} {v : Value} {l : List UInt8} (h : Dq w S v l) : v.oneCell' = true := by
  obtain ⟨A, c, rfl, _⟩ := h
  rfl
theorem Dq.form {w : World} {S : List Nat} {v : Value} {l : List UInt8} (h : Dq w S v l) : ∃ A c, v = .slice A l.length c ∧ Bs w A c l := by
  obtain ⟨A, c, h1, h2, _⟩ := h
  exact ⟨A, c, h1, h2⟩
theorem kindW_at {k : Int} : KD.atKey (.int .i64 k) (wordD []) = wordD (kindW k) := by
  unfold KD DataW.atKey kindW
  simp only [KT, List.map_cons, List.map_nil, List.find?_cons, Lit.sameKey]
  by_cases h2 : 1 = k
  · subst h2; simp
  by_cases h3 : 2 = k
  · subst h3; simp
  by_cases h4 : 3 = k
  · subst h4; simp
  by_cases h5 : 4 = k
  · subst h5; simp
  by_cases h6 : 5 = k
  · subst h6; simp
  by_cases h7 : 6 = k
  · subst h7; simp
  by_cases h8 : 7 = k
  · subst h8; simp
  simp [h2, h3, h4, h5, h6, h7, h8]
/-! the walk's own looks at an operation (with_reducible refine): without them a law is tried at goals that it runs away on -/
theorem at_load {P : Program} {ops : Array Oper} {Q : Exit → Act → World → Prop} {rest : List Oper} {a : Act} {w : World} {d : Option Tmp} {x : Operand} {t : TypeId} {pos : String} {af : Array Edge} {g : Option (Nat × Bool)} (T : TypeId) (h : wpList P ops Q ({ dst := d, op := .load T x, type := t, pos := pos, after := af, guard := g } :: rest) a w) : wpList P ops Q ({ dst := d, op := .load T x, type := t, pos := pos, after := af, guard := g } :: rest) a w := h
theorem at_store {P : Program} {ops : Array Oper} {Q : Exit → Act → World → Prop} {rest : List Oper} {a : Act} {w : World} {d : Option Tmp} {x y : Operand} {t : TypeId} {pos : String} {af : Array Edge} {g : Option (Nat × Bool)} (T : TypeId) (h : wpList P ops Q ({ dst := d, op := .store T x y, type := t, pos := pos, after := af, guard := g } :: rest) a w) : wpList P ops Q ({ dst := d, op := .store T x y, type := t, pos := pos, after := af, guard := g } :: rest) a w := h
theorem zero_str : ∀ w : World, (zeroValue 9).run Tryz.prog w = .ok (.string ⟨#[]⟩) w := fun _ => by kernel_rfl
theorem lookup_word {w : World} {mb : Nat} (h : w.ownsMap Tryz.prog 3 (plainElem Tryz.prog 9) mb 7 KD) {k : Int} (hk : -9223372036854775808 ≤ k ∧ k ≤ 9223372036854775807) :
    ∃ W, (Instr.lookup 93 (.map (some mb)) (.int .i64 k) false).run Tryz.prog w = .ok (.string W) w ∧ toL W = kindW k := by
  obtain ⟨v, ps, hrun, hv⟩ := h.lookup intK Tryz.underlying93 (zero_str w) (strE_word [] (by decide)) (keyOf_int_mk (a := k) Tryz.underlying3 (WalkArith.wf_i64 hk))
  obtain ⟨W, rfl, e⟩ := strInv0 hv
  rw [kindW_at] at e
  refine ⟨W, hrun, ?_⟩
  simp only [wordD, Prod.mk.injEq, DataW.lit.injEq, Lit.string.injEq] at e
  exact e.1.symm
def SaRel (x0 : World) (b g : Nat) (fs : List UInt8) (s0 : SaSt) (ov kv : Value) (wr : World) : Prop :=
  ∃ (i : Nat) (st : SaSt) (L : List ByteArray) (dv fv : Value), i ≤ fs.length ∧ L.length ≤ i ∧ saidF fs s0 = saidF (fs.drop i) st ∧ kv = .bool st.ok ∧ L.map toL = st.out ∧ wr.ownsRow x0.heap.size 9 1 ov L.length (txs L) ∧ ActOk st.act ∧
    Fr [b, g] x0 wr ∧ wr.heap[b]? = some (.cells (actV st.act dv fv).toArray 57 (0, 0)) ∧ wr.heap[g]? = some (.stringIter (mkS fs) i) ∧ Dq x0 [b, g] dv st.act.data ∧ Dq x0 [b, g] fv st.act.fdata
/-- what said hands back -/
def SaPost (w : World) (b : Nat) (fs : List UInt8) (s0 : SaSt) (e : Ending) (w' : World) : Prop :=
  ∃ (L : List ByteArray) (v dv fv : Value), e = .returned (.tuple #[v, .bool (saidF fs s0).ok]) ∧ L.length ≤ 5 ∧ L.map toL = (saidF fs s0).out ∧ w'.ownsRow w.heap.size 9 1 v L.length (txs L) ∧ Fr [b] w w' ∧ ActOk (saidF fs s0).act ∧
    w'.heap[b]? = some (.cells (actV (saidF fs s0).act dv fv).toArray 57 (0, 0)) ∧ Dq w' [b] dv (saidF fs s0).act.data ∧ Dq w' [b] fv (saidF fs s0).act.fdata
end Go.Proofs.YtlljjddgbilipaaGreatDoor
