/-
  Plain: an act, its fields by their letters; in memory.
-/
import Derived.Test.YtlljjddgbilipaaGreatDoorTxFind
import Derived.Test.YtlljjddgbilipaaGreatDoorTxWds
namespace Go.Proofs.YtlljjddgbilipaaGreatDoor
open Go.RowKit Go.Maps

set_option linter.unusedSimpArgs false

attribute [local go_sem] lt1 lt2 lt3 lt4 lt5 lt6

structure ActD where
  kind : Int
  ck : Int
  path : List UInt8
  ver : List UInt8
  name : List UInt8
  data : List UInt8
  n : Int
  m : Int
  url : List UInt8
  att : Int
  fk : Int
  fn : Int
  fdata : List UInt8
def zAct : ActD := ⟨0, 0, [], [], [], [], 0, 0, [], 0, 0, 0, []⟩
def actV (a : ActD) (dv fv : Value) : List Value := [.int .i64 a.kind, .int .i64 a.ck, .string (mkS a.path), .string (mkS a.ver), .string (mkS a.name), dv, .int .i64 a.n, .int .i64 a.m, .string (mkS a.url), .int .i64 a.att, .int .i64 a.fk, .int .i64 a.fn, fv]
def nilV : Value := .slice none 0 0
theorem infoAct : (Tryz.prog.info? 57).map (fun i => (i.zero, i.size)) = some (some (.agg (actV zAct nilV nilV).toArray), 13) := by kernel_rfl
theorem sizeAct : (Tryz.prog.info? 57).map (·.size) = some 13 := by kernel_rfl
/-- a text into a text's field -/
def setT (c : UInt8) (x : List UInt8) (a : ActD) : ActD := if c.toNat = 80 then { a with path := x } else if c.toNat = 86 then { a with ver := x } else if c.toNat = 110 then { a with name := x } else if c.toNat = 85 then { a with url := x } else a
def setB (c : UInt8) (x : List UInt8) (a : ActD) : ActD := if c.toNat = 68 then { a with data := x } else if c.toNat = 66 then { a with fdata := x } else a
def setN (c : UInt8) (n : Int) (a : ActD) : ActD := if c.toNat = 78 then { a with n := n } else if c.toNat = 77 then { a with m := n } else if c.toNat = 65 then { a with att := n } else if c.toNat = 70 then { a with fn := n } else a
def newK (k : Int) (x : List UInt8) : Int := match KT.find? (fun p => decide (p.2 = x)) with
  | some p => p.1
  | none => k
/-- a word into the field of its letter -/
def stepF (c : UInt8) (x : List UInt8) (s : ActD × Bool) : Option (ActD × Bool) :=
  if (tOff c).isSome then some (setT c x s.1, s.2)
  else if (bOff c).isSome then some (setB c x s.1, s.2)
  else if (nOff c).isSome then (numP x).map fun n => (setN c n s.1, s.2)
  else if c.toNat = 75 then some ({ s.1 with fk := newK s.1.fk x }, decide (newK s.1.fk x = 0))
  else some s
def parseF : List UInt8 → List (List UInt8) → ActD × Bool → Option (ActD × Bool)
  | c :: cs, x :: xs, s => match stepF c x s with
    | some s' => parseF cs xs s'
    | none => none
  | _, _, s => some s
def initA (f : Form) : ActD := { zAct with kind := (f.kind : Nat), ck := (f.sub : Nat) }
def parseW (l : List (List UInt8)) : ActD × Int := match findL FORMS l with
  | none => (zAct, 7)
  | some (f, k) => if (l.drop k).length ≠ f.fields.length then (zAct, 14) else match parseF f.fields (l.drop k) (initA f, false) with
    | none => (zAct, 6)
    | some (a, syn) => if syn = true then (zAct, 11) else (a, 0)
/-- an act of a line -/
def parseA (s : List UInt8) : ActD × Int := if wordsErr s ≠ 0 then (zAct, wordsErr s) else parseW (wordsOf s)
/-! ### the words of a line are no longer than it -/
theorem quotedK_wlen : ∀ (n : Nat) {l : List UInt8} {p : List UInt8 × List UInt8}, quotedK n l = some p → p.1.length + p.2.length ≤ l.length
  | 0, [], _, h => by simp [quotedK] at h
  | n + 1, [], _, h => by simp [quotedK] at h
  | n + 1, c :: r, p, h => by
    rw [quotedK] at h
    have := quotedK_wlen n h
    simp
    omega
  | 0, c :: r, p, h => by
    rw [quotedK] at h
    split at h
    · cases h
    split at h
    · cases h; simp
    split at h
    · split at h
      · cases h
      · rename_i x n _
        rw [Option.map_eq_some_iff] at h
        obtain ⟨q, h1, rfl⟩ := h
        have := quotedK_wlen n h1
        simp
        omega
    · rw [Option.map_eq_some_iff] at h
      obtain ⟨q, h1, rfl⟩ := h
      have := quotedK_wlen 0 h1
      simp
      omega
theorem rawW_wlen {r : List UInt8} {p : List UInt8 × List UInt8} (h : rawW r = some p) : p.1.length + p.2.length ≤ r.length := by
  cases r with
  | nil => cases h
  | cons c t =>
    rw [rawW_cons] at h
    by_cases hc : c = 34
    · rw [if_pos hc] at h
      have := quotedK_wlen 0 h
      rw [List.length_cons]
      omega
    · rw [if_neg hc] at h
      by_cases hb : bareB c = true
      · rw [if_pos hb] at h
        cases h
        rw [← List.length_append, List.takeWhile_append_dropWhile]
        exact Nat.le_refl _
      · rw [if_neg hb] at h
        cases h
theorem wordL_wlen {r : List UInt8} {p : List UInt8 × List UInt8} (h : wordL r = some p) : p.1.length + p.2.length ≤ r.length := by
  unfold wordL at h
  cases hq : rawW r with
  | none => rw [hq] at h; cases h
  | some q =>
    rw [hq] at h
    simp only at h
    by_cases he : endW q.2
    · rw [if_pos he] at h
      cases h
      exact rawW_wlen hq
    · rw [if_neg he] at h
      cases h
theorem wordsF_wlen : ∀ (n : Nat) (s : List UInt8) (l : List (List UInt8)), wordsF n s = some l → ∀ x ∈ l, x.length ≤ s.length
  | 0, _, _, h, _, _ => by simp [wordsF] at h
  | n + 1, s, l, h, x, hx => by
    unfold wordsF at h
    split at h
    · cases h
      simp at hx
    · split at h
      · cases h
      · rename_i p hp
        rw [Option.map_eq_some_iff] at h
        obtain ⟨q, h1, rfl⟩ := h
        have h3 := wordL_wlen hp
        have h4 := trimB_le s
        rcases List.mem_cons.1 hx with rfl | hx
        · omega
        · have := wordsF_wlen n p.2 q h1 x hx
          omega
theorem wordsOf_len {s x : List UInt8} (hx : x ∈ wordsOf s) : x.length ≤ s.length := by
  unfold wordsOf at hx
  split at hx
  · simp at hx
  · split at hx
    · simp at hx
    · rename_i l hl
      exact wordsF_wlen _ _ _ hl x hx
/-! ### in memory -/
/-- bytes in memory from base on, or none -/
def Dat (w : World) (base : Nat) (v : Value) (l : List UInt8) : Prop := ∃ A c, v = .slice A l.length c ∧ Bs w A c l ∧ ∀ a, A = some a → base ≤ a.block
theorem Dat.nil (w : World) (base : Nat) : Dat w base nilV [] := ⟨none, 0, rfl, Bs.none_ w, by simp⟩
theorem Dat.base {w : World} {base base' : Nat} {v : Value} {l : List UInt8} (h : Dat w base v l) (hb : base' ≤ base) : Dat w base' v l := by
  obtain ⟨A, c, h1, h2, h3⟩ := h
  exact ⟨A, c, h1, h2, fun a ha => Nat.le_trans hb (h3 a ha)⟩
theorem Dat.keep {w w' : World} {base : Nat} {v : Value} {l : List UInt8} (h : Dat w base v l) (hk : ∀ k, base ≤ k → k < w.heap.size → w'.heap[k]? = w.heap[k]?) : Dat w' base v l := by
  obtain ⟨A, c, h1, h2, h3⟩ := h
  refine ⟨A, c, h1, ⟨h2.len, h2.nil, h2.le, h2.big, fun hn => ?_⟩, h3⟩
  obtain ⟨b, o, rfl, hx⟩ := h2.cells hn
  refine ⟨b, o, rfl, fun j hj => ?_⟩
  have hb := h3 _ rfl
  have h4 := hx j hj
  have hl : j < (u8s l).length := by rw [u8s_length]; omega
  rw [List.getElem?_eq_getElem hl] at h4 ⊢
  have hlt := World.block_lt_of_cell? w _ h4
  exact (World.cell?_of_block (hk b hb hlt)).trans h4
theorem Dat.below {w w' : World} {base : Nat} {v : Value} {l : List UInt8} (h : Dat w base v l) (hB : Below w.heap.size w w') : Dat w' base v l := h.keep fun k _ hk => hB.block k hk
theorem Dat.row {w : World} {base g : Nat} {v : Value} {l : List UInt8} (h : Dat w base v l) (hg : g < base) (cs : Array Value) : Dat (w.setRow g cs) base v l := h.keep fun k hk _ => setRow_other _ _ _ _ (by omega)
theorem Dat.form {w : World} {base : Nat} {v : Value} {l : List UInt8} (h : Dat w base v l) : ∃ A c, v = .slice A l.length c ∧ Bs w A c l := by
  obtain ⟨A, c, h1, h2, _⟩ := h
  exact ⟨A, c, h1, h2⟩
theorem Dat.one {w : World} {base : Nat} {v : Value} {l : List UInt8} (h : Dat w base v l) : v.oneCell' = true := by
  obtain ⟨A, c, rfl, _⟩ := h
  rfl
/-- '[]byte(s)' of a text -/
theorem bytes_dat (w : World) (x : ByteArray) (hx : x.size ≤ 1048576) : ∃ v w', (convert 9 30 (.string x)).run Tryz.prog w = .ok v w' ∧ Dat w' w.heap.size v (toL x) ∧ Below w.heap.size w w' := by
  refine ⟨_, _, Lib.run_convert_string_bytes w 9 30 5 x Tryz.underlying9 Tryz.underlying30 Tryz.underlying5, ⟨_, _, by rw [toL_len], ⟨by simp [u8s], by simp, ?_, ?_, fun hn => ⟨_, 0, rfl, fun j hj => ?_⟩⟩, by intro a ha; cases ha; exact Nat.le_refl _⟩, ⟨rfl, rfl, rfl, by rw [Lib.bytesWorld_size]; omega, fun j hj => Lib.bytesWorld_at_old w _ x j hj⟩⟩
  · rw [toL_len]
    exact grownCap_ge _ _ _ _
  · exact grownCap_le_maxLen _ _ _ _ (by unfold maxLen; omega)
  · rw [Nat.zero_add, Lib.bytesWorld_cell w _ x j (by rw [toL_len] at hj; omega), u8s_at (by omega)]
    rfl
theorem actV_one {a : ActD} {dv fv : Value} (h1 : dv.oneCell' = true) (h2 : fv.oneCell' = true) : ∀ u ∈ actV a dv fv, u.oneCell' = true := by
  intro u hu
  simp only [actV, List.mem_cons, List.not_mem_nil, or_false] at hu
  rcases hu with rfl | rfl | rfl | rfl | rfl | rfl | rfl | rfl | rfl | rfl | rfl | rfl | rfl <;> first | rfl | exact h1 | exact h2
end Go.Proofs.YtlljjddgbilipaaGreatDoor
