/-
  Plain: an act, its fields by their letters; in memory.
  Laws for text.ParseAct.
  Plain: an act's fields written, and what is left of it; laws for said.
  limited.
  zero.
  Plain: blanks at the ends of a line, and more of them between its words, change nothing.
  Same: are two acts the same?
-/
import Derived.Test.YtbmnbhammganfaaDoorTxFind
import Derived.Test.YtbmnbhammganfaaDoorTxWds
import Derived.Test.YtbmnbhammganfaaDoorTxWord
import Derived.Test.YtbmnbhammganfaaDoorShelf
namespace Go.Proofs.YtbmnbhammganfaaDoor
open Go.RowKit Go.Maps

set_option linter.unusedSimpArgs false

attribute [local go_sem] lt1 lt2 lt3 lt4 lt5 lt6

structure ActD where
  kind : Int
  ck : Int
  path : List UInt8
  ver : List UInt8
  name : List UInt8
  data : List UInt8
  n : Int
  m : Int
  url : List UInt8
  att : Int
  fk : Int
  fn : Int
  fdata : List UInt8
def zAct : ActD := ⟨0, 0, [], [], [], [], 0, 0, [], 0, 0, 0, []⟩
def actV (a : ActD) (dv fv : Value) : List Value := [.int .i64 a.kind, .int .i64 a.ck, .string (mkS a.path), .string (mkS a.ver), .string (mkS a.name), dv, .int .i64 a.n, .int .i64 a.m, .string (mkS a.url), .int .i64 a.att, .int .i64 a.fk, .int .i64 a.fn, fv]
def nilV : Value := .slice none 0 0
theorem infoAct : (Tryd.prog.info? 28).map (fun i => (i.zero, i.size)) = some (some (.agg (actV zAct nilV nilV).toArray), 13) := by kernel_rfl
theorem sizeAct : (Tryd.prog.info? 28).map (·.size) = some 13 := by kernel_rfl
/-- a text into a text's field -/
def setT (c : UInt8) (x : List UInt8) (a : ActD) : ActD := if c.toNat = 80 then { a with path := x } else if c.toNat = 86 then { a with ver := x } else if c.toNat = 110 then { a with name := x } else if c.toNat = 85 then { a with url := x } else a
def setB (c : UInt8) (x : List UInt8) (a : ActD) : ActD := if c.toNat = 68 then { a with data := x } else if c.toNat = 66 then { a with fdata := x } else a
def setN (c : UInt8) (n : Int) (a : ActD) : ActD := if c.toNat = 78 then { a with n := n } else if c.toNat = 77 then { a with m := n } else if c.toNat = 65 then { a with att := n } else if c.toNat = 70 then { a with fn := n } else a
def newK (k : Int) (x : List UInt8) : Int := match KT.find? (fun p => decide (p.2 = x)) with
  | some p => p.1
  | none => k
/-- a word into the field of its letter -/
def stepF (c : UInt8) (x : List UInt8) (s : ActD × Bool) : Option (ActD × Bool) :=
  if (tOff c).isSome then some (setT c x s.1, s.2)
  else if (bOff c).isSome then some (setB c x s.1, s.2)
  else if (nOff c).isSome then (numP x).map fun n => (setN c n s.1, s.2)
  else if c.toNat = 75 then some ({ s.1 with fk := newK s.1.fk x }, decide (newK s.1.fk x = 0))
  else some s
def parseF : List UInt8 → List (List UInt8) → ActD × Bool → Option (ActD × Bool)
  | c :: cs, x :: xs, s => match stepF c x s with
    | some s' => parseF cs xs s'
    | none => none
  | _, _, s => some s
def initA (f : Form) : ActD := { zAct with kind := (f.kind : Nat), ck := (f.sub : Nat) }
def parseW (l : List (List UInt8)) : ActD × Int := match findL FORMS l with
  | none => (zAct, 7)
  | some (f, k) => if (l.drop k).length ≠ f.fields.length then (zAct, 14) else match parseF f.fields (l.drop k) (initA f, false) with
    | none => (zAct, 6)
    | some (a, syn) => if syn = true then (zAct, 11) else (a, 0)
/-- an act of a line -/
def parseA (s : List UInt8) : ActD × Int := if wordsErr s ≠ 0 then (zAct, wordsErr s) else parseW (wordsOf s)
/-! ### the words of a line are no longer than it -/
theorem quotedK_wlen : ∀ (n : Nat) {l : List UInt8} {p : List UInt8 × List UInt8}, quotedK n l = some p → p.1.length + p.2.length ≤ l.length
  | 0, [], _, h => by simp [quotedK] at h
  | n + 1, [], _, h => by simp [quotedK] at h
  | n + 1, c :: r, p, h => by
    rw [quotedK] at h
    have := quotedK_wlen n h
    simp
    omega
  | 0, c :: r, p, h => by
    rw [quotedK] at h
    split at h
    · cases h
    split at h
    · cases h; simp
    split at h
    · split at h
      · cases h
      · rename_i x n _
        rw [Option.map_eq_some_iff] at h
        obtain ⟨q, h1, rfl⟩ := h
        have := quotedK_wlen n h1
        simp
        omega
    · rw [Option.map_eq_some_iff] at h
      obtain ⟨q, h1, rfl⟩ := h
      have := quotedK_wlen 0 h1
      simp
      omega
theorem rawW_wlen {r : List UInt8} {p : List UInt8 × List UInt8} (h : rawW r = some p) : p.1.length + p.2.length ≤ r.length := by
  cases r with
  | nil => cases h
  | cons c t =>
    rw [rawW_cons] at h
    by_cases hc : c = 34
    · rw [if_pos hc] at h
      have := quotedK_wlen 0 h
      rw [List.length_cons]
      omega
    · rw [if_neg hc] at h
      by_cases hb : bareB c = true
      · rw [if_pos hb] at h
        cases h
        rw [← List.length_append, List.takeWhile_append_dropWhile]
        exact Nat.le_refl _
      · rw [if_neg hb] at h
        cases h
theorem wordL_wlen {r : List UInt8} {p : List UInt8 × List UInt8} (h : wordL r = some p) : p.1.length + p.2.length ≤ r.length := by
  unfold wordL at h
  cases hq : rawW r with
  | none => rw [hq] at h; cases h
  | some q =>
    rw [hq] at h
    simp only at h
    by_cases he : endW q.2
    · rw [if_pos he] at h
      cases h
      exact rawW_wlen hq
    · rw [if_neg he] at h
      cases h
theorem wordsF_wlen : ∀ (n : Nat) (s : List UInt8) (l : List (List UInt8)), wordsF n s = some l → ∀ x ∈ l, x.length ≤ s.length
  | 0, _, _, h, _, _ => by simp [wordsF] at h
  | n + 1, s, l, h, x, hx => by
    unfold wordsF at h
    split at h
    · cases h
      simp at hx
    · split at h
      · cases h
      · rename_i p hp
        rw [Option.map_eq_some_iff] at h
        obtain ⟨q, h1, rfl⟩ := h
        have h3 := wordL_wlen hp
        have h4 := trimB_le s
        rcases List.mem_cons.1 hx with rfl | hx
        · omega
        · have := wordsF_wlen n p.2 q h1 x hx
          omega
theorem wordsOf_len {s x : List UInt8} (hx : x ∈ wordsOf s) : x.length ≤ s.length := by
  unfold wordsOf at hx
  split at hx
  · simp at hx
  · split at hx
    · simp at hx
    · rename_i l hl
      exact wordsF_wlen _ _ _ hl x hx
/-! ### in memory -/
/-- bytes in memory from base on, or none -/
def Dat (w : World) (base : Nat) (v : Value) (l : List UInt8) : Prop := ∃ A c, v = .slice A l.length c ∧ Bs w A c l ∧ ∀ a, A = some a → base ≤ a.block
theorem Dat.nil (w : World) (base : Nat) : Dat w base nilV [] := ⟨none, 0, rfl, Bs.none_ w, by simp⟩
theorem Dat.base {w : World} {base base' : Nat} {v : Value} {l : List UInt8} (h : Dat w base v l) (hb : base' ≤ base) : Dat w base' v l := by
  obtain ⟨A, c, h1, h2, h3⟩ := h
  exact ⟨A, c, h1, h2, fun a ha => Nat.le_trans hb (h3 a ha)⟩
theorem Dat.keep {w w' : World} {base : Nat} {v : Value} {l : List UInt8} (h : Dat w base v l) (hk : ∀ k, base ≤ k → k < w.heap.size → w'.heap[k]? = w.heap[k]?) : Dat w' base v l := by
  obtain ⟨A, c, h1, h2, h3⟩ := h
  refine ⟨A, c, h1, ⟨h2.len, h2.nil, h2.le, h2.big, fun hn => ?_⟩, h3⟩
  obtain ⟨b, o, rfl, hx⟩ := h2.cells hn
  refine ⟨b, o, rfl, fun j hj => ?_⟩
  have hb := h3 _ rfl
  have h4 := hx j hj
  have hl : j < (u8s l).length := by rw [u8s_length]; omega
  rw [List.getElem?_eq_getElem hl] at h4 ⊢
  have hlt := World.block_lt_of_cell? w _ h4
  exact (World.cell?_of_block (hk b hb hlt)).trans h4
theorem Dat.below {w w' : World} {base : Nat} {v : Value} {l : List UInt8} (h : Dat w base v l) (hB : Below w.heap.size w w') : Dat w' base v l := h.keep fun k _ hk => hB.block k hk
theorem Dat.row {w : World} {base g : Nat} {v : Value} {l : List UInt8} (h : Dat w base v l) (hg : g < base) (cs : Array Value) : Dat (w.setRow g cs) base v l := h.keep fun k hk _ => setRow_other _ _ _ _ (by omega)
theorem Dat.form {w : World} {base : Nat} {v : Value} {l : List UInt8} (h : Dat w base v l) : ∃ A c, v = .slice A l.length c ∧ Bs w A c l := by
  obtain ⟨A, c, h1, h2, _⟩ := h
  exact ⟨A, c, h1, h2⟩
theorem Dat.one {w : World} {base : Nat} {v : Value} {l : List UInt8} (h : Dat w base v l) : v.oneCell' = true := by
  obtain ⟨A, c, rfl, _⟩ := h
  rfl
/-- '[]byte(s)' of a text -/
theorem bytes_dat (w : World) (x : ByteArray) (hx : x.size ≤ 1048576) : ∃ v w', (convert 9 24 (.string x)).run Tryd.prog w = .ok v w' ∧ Dat w' w.heap.size v (toL x) ∧ Below w.heap.size w w' := by
  refine ⟨_, _, Lib.run_convert_string_bytes w 9 24 5 x Tryd.underlying9 Tryd.underlying24 Tryd.underlying5, ⟨_, _, by rw [toL_len], ⟨by simp [u8s], by simp, ?_, ?_, fun hn => ⟨_, 0, rfl, fun j hj => ?_⟩⟩, by intro a ha; cases ha; exact Nat.le_refl _⟩, ⟨rfl, rfl, rfl, by rw [Lib.bytesWorld_size]; omega, fun j hj => Lib.bytesWorld_at_old w _ x j hj⟩⟩
  · rw [toL_len]
    exact grownCap_ge _ _ _ _
  · exact grownCap_le_maxLen _ _ _ _ (by unfold maxLen; omega)
  · rw [Nat.zero_add, Lib.bytesWorld_cell w _ x j (by rw [toL_len] at hj; omega), u8s_at (by omega)]
    rfl
theorem actV_one {a : ActD} {dv fv : Value} (h1 : dv.oneCell' = true) (h2 : fv.oneCell' = true) : ∀ u ∈ actV a dv fv, u.oneCell' = true := by
  intro u hu
  simp only [actV, List.mem_cons, List.not_mem_nil, or_false] at hu
  rcases hu with rfl | rfl | rfl | rfl | rfl | rfl | rfl | rfl | rfl | rfl | rfl | rfl | rfl <;> first | rfl | exact h1 | exact h2
end Go.Proofs.YtbmnbhammganfaaDoor
namespace Go.Proofs.YtbmnbhammganfaaDoor
open Go.RowKit Go.Maps

set_option linter.unusedSimpArgs false

attribute [local go_sem] lt1 lt2 lt3 lt4 lt5 lt6

/-- what ParseAct hands back -/
def PaPost (w : World) (s : ByteArray) (e : Ending) (w' : World) : Prop := ∃ (a : ActD) (dv fv : Value), e = .returned (.tuple #[.agg (actV a dv fv).toArray, .int .i64 (parseA (toL s)).2]) ∧ a = (parseA (toL s)).1 ∧ Dat w' w.heap.size dv a.data ∧ Dat w' w.heap.size fv a.fdata ∧ Below w.heap.size w w'
theorem pa_zero {w w' : World} {s : ByteArray} {n : Int} (h : parseA (toL s) = (zAct, n)) (hB : Below w.heap.size w w') : PaPost w s (.returned (.tuple #[.agg (actV zAct nilV nilV).toArray, .int .i64 n])) w' :=
  ⟨zAct, nilV, nilV, by rw [h], by rw [h], Dat.nil _ _, Dat.nil _ _, hB⟩
theorem parseA_err {s : List UInt8} (h : wordsErr s ≠ 0) : parseA s = (zAct, wordsErr s) := by unfold parseA; rw [if_pos h]
theorem parseA_ok {s : List UInt8} (h : wordsErr s = 0) : parseA s = parseW (wordsOf s) := by unfold parseA; rw [if_neg (by rw [h]; decide)]
theorem actZ_one : ((actV zAct nilV nilV).toArray.all (·.oneCell') = true) := all_oneCell_toArray (actV_one rfl rfl)
def PaRel (x0 : World) (b g : Nat) (fs : List UInt8) (ws : List (List UInt8)) (s0 : ActD × Bool) (sv : Value) (wr : World) : Prop :=
  ∃ (i : Nat) (st : ActD × Bool) (dv fv : Value), i ≤ fs.length ∧ parseF fs ws s0 = parseF (fs.drop i) (ws.drop i) st ∧ sv = .bool st.2 ∧ Fr [b, g] x0 wr ∧ wr.heap[b]? = some (.cells (actV st.1 dv fv).toArray 28 (0, 0)) ∧ wr.heap[g]? = some (.stringIter (mkS fs) i) ∧ Dat wr x0.heap.size dv st.1.data ∧ Dat wr x0.heap.size fv st.1.fdata
/-- a step of a range over a text, in whatever world -/
theorem run_next_at {P : Program} {w : World} {g : Nat} {s : ByteArray} {pos : Nat} (ty : TypeId) (hg : w.heap[g]? = some (.stringIter s pos)) (h : pos < s.size) (ha : (s[pos]'h).toNat < 128) :
    (Instr.next (.pointer (some ⟨g, 0, none⟩)) true ty).run P w = .ok (.tuple #[.bool true, .int .i64 pos, .int .i32 (s[pos]'h).toNat]) (ChangeMaps.setBlock w g (.stringIter s (pos + 1))) := by
  simp [Instr.next, getObj, setObj, Sem.run_bind, Sem.run, hg, Result.andThen, h, decode_ascii s pos h ha, goInt, ChangeMaps.setBlock]
theorem run_next_end_at {P : Program} {w : World} {g : Nat} {s : ByteArray} {pos : Nat} (ty : TypeId) (hg : w.heap[g]? = some (.stringIter s pos)) (h : ¬ pos < s.size) :
    (Instr.next (.pointer (some ⟨g, 0, none⟩)) true ty).run P w = .ok (.tuple #[.bool false]) w := by
  simp [Instr.next, getObj, Sem.run, hg, h]
theorem pa_next {fs : List UInt8} {ws : List (List UInt8)} {s0 st st' : ActD × Bool} {i : Nat} {c : UInt8} {x : List UInt8} (hi : i < fs.length) (hc : c = fs.getD i 0) (hx : ws[i]? = some x) (hpf : parseF fs ws s0 = parseF (fs.drop i) (ws.drop i) st) (hst : stepF c x st = some st') :
    parseF fs ws s0 = parseF (fs.drop (i + 1)) (ws.drop (i + 1)) st' := by
  obtain ⟨hj, he⟩ := List.getElem?_eq_some_iff.1 hx
  rw [hpf, drop_getD hi, ← hc, List.drop_eq_getElem_cons hj, he, parseF, hst]
theorem pa_fail {fs : List UInt8} {ws : List (List UInt8)} {s0 st : ActD × Bool} {i : Nat} {c : UInt8} {x : List UInt8} (hi : i < fs.length) (hc : c = fs.getD i 0) (hx : ws[i]? = some x) (hpf : parseF fs ws s0 = parseF (fs.drop i) (ws.drop i) st) (hst : stepF c x st = none) :
    parseF fs ws s0 = none := by
  obtain ⟨hj, he⟩ := List.getElem?_eq_some_iff.1 hx
  rw [hpf, drop_getD hi, ← hc, List.drop_eq_getElem_cons hj, he, parseF, hst]
theorem forms_ascii {f : Form} (h : f ∈ FORMS) : ∀ c ∈ f.fields, c.toNat < 128 := by
  have : ∀ f ∈ FORMS, ∀ c ∈ f.fields, c.toNat < 128 := by decide +kernel
  exact this f h
theorem findL_mem : ∀ {l : List Form} {x : List (List UInt8)} {f : Form} {k : Nat}, findL l x = some (f, k) → f ∈ l
  | [], _, _, _, h => by simp [findL] at h
  | g :: r, x, f, k, h => by
    rw [findL] at h
    split at h
    · cases h
      simp
    · exact List.mem_cons_of_mem _ (findL_mem h)
theorem tOff_cases {c : UInt8} {o : Nat} (h : tOff c = some o) : (c.toNat = 80 ∧ o = 2) ∨ (c.toNat = 86 ∧ o = 3) ∨ (c.toNat = 110 ∧ o = 4) ∨ (c.toNat = 85 ∧ o = 8) := by
  unfold tOff at h
  repeat' split at h
  all_goals first | (cases h; omega) | cases h
theorem bOff_cases {c : UInt8} {o : Nat} (h : bOff c = some o) : (c.toNat = 68 ∧ o = 5) ∨ (c.toNat = 66 ∧ o = 12) := by
  unfold bOff at h
  repeat' split at h
  all_goals first | (cases h; omega) | cases h
theorem nOff_cases {c : UInt8} {o : Nat} (h : nOff c = some o) : (c.toNat = 78 ∧ o = 6) ∨ (c.toNat = 77 ∧ o = 7) ∨ (c.toNat = 65 ∧ o = 9) ∨ (c.toNat = 70 ∧ o = 11) := by
  unfold nOff at h
  repeat' split at h
  all_goals first | (cases h; omega) | cases h
theorem actV_setT {c : UInt8} {o : Nat} (h : tOff c = some o) (a : ActD) (x : List UInt8) (dv fv : Value) : (actV a dv fv).set o (.string (mkS x)) = actV (setT c x a) dv fv ∧ (setT c x a).data = a.data ∧ (setT c x a).fdata = a.fdata := by
  rcases tOff_cases h with ⟨e, rfl⟩ | ⟨e, rfl⟩ | ⟨e, rfl⟩ | ⟨e, rfl⟩ <;> (unfold setT; rw [e]; exact ⟨rfl, rfl, rfl⟩)
theorem actV_setN {c : UInt8} {o : Nat} (h : nOff c = some o) (a : ActD) (n : Int) (dv fv : Value) : (actV a dv fv).set o (.int .i64 n) = actV (setN c n a) dv fv ∧ (setN c n a).data = a.data ∧ (setN c n a).fdata = a.fdata := by
  rcases nOff_cases h with ⟨e, rfl⟩ | ⟨e, rfl⟩ | ⟨e, rfl⟩ | ⟨e, rfl⟩ <;> (unfold setN; rw [e]; exact ⟨rfl, rfl, rfl⟩)
theorem actV_setB {c : UInt8} {o : Nat} (h : bOff c = some o) (a : ActD) (x : List UInt8) (v dv fv : Value) : ∃ dv' fv', (actV a dv fv).set o v = actV (setB c x a) dv' fv' ∧ ∀ (Q : Value → List UInt8 → Prop), Q dv a.data → Q fv a.fdata → Q v x → Q dv' (setB c x a).data ∧ Q fv' (setB c x a).fdata := by
  rcases bOff_cases h with ⟨e, rfl⟩ | ⟨e, rfl⟩
  · exact ⟨v, fv, by unfold setB; rw [e]; rfl, fun Q h1 h2 h3 => by unfold setB; rw [e]; exact ⟨h3, h2⟩⟩
  · exact ⟨dv, v, by unfold setB; rw [e]; rfl, fun Q h1 h2 h3 => by unfold setB; rw [e]; exact ⟨h1, h3⟩⟩
theorem off_lt {c : UInt8} {o : Nat} (h : tOff c = some o ∨ bOff c = some o ∨ nOff c = some o) : o < 13 := by
  rcases h with h | h | h
  · have := tOff_cases h; omega
  · have := bOff_cases h; omega
  · have := nOff_cases h; omega
/-! ### the faults' words, one by one -/
theorem kd_at {x : Int} {l : List UInt8} (h : ∀ zd, KD.atKey (.int .i64 x) zd = .lit (.string l)) : (x, l) ∈ KT := by
  have h1 := h .nil
  unfold KD DataW.atKey at h1
  simp only [KT, List.map_cons, List.map_nil, List.find?_cons, Lit.sameKey] at h1
  by_cases h2 : 1 = x
  · subst h2
    simp [wordD] at h1
    rw [← h1]; simp [KT]
  by_cases h3 : 2 = x
  · subst h3
    simp [wordD] at h1
    rw [← h1]; simp [KT]
  by_cases h4 : 3 = x
  · subst h4
    simp [wordD] at h1
    rw [← h1]; simp [KT]
  by_cases h5 : 4 = x
  · subst h5
    simp [wordD] at h1
    rw [← h1]; simp [KT]
  by_cases h6 : 5 = x
  · subst h6
    simp [wordD] at h1
    rw [← h1]; simp [KT]
  by_cases h7 : 6 = x
  · subst h7
    simp [wordD] at h1
    rw [← h1]; simp [KT]
  by_cases h8 : 7 = x
  · subst h8
    simp [wordD] at h1
    rw [← h1]; simp [KT]
  simp [h2, h3, h4, h5, h6, h7, h8] at h1
theorem kt_one : ∀ p ∈ KT, ∀ q ∈ KT, p.2 = q.2 → p.1 = q.1 := by decide +kernel
theorem grown_of_fr {b : Nat} {w w' : World} (h : Fr [b] w w') : w.grownBy w' (some b) := ⟨h.os, h.tape, h.output, h.size, fun k hk hn => h.block k hk (by simpa using fun e => hn (by rw [e]))⟩
def KSt (x : List UInt8) (fk0 : Int) (left : Lit → Bool) (fk : Int) : Prop := (∀ p ∈ KT, left (.int .i64 p.1) = false → p.2 = x → fk = p.1) ∧ (fk = fk0 ∨ ∃ p ∈ KT, p.2 = x ∧ fk = p.1)
theorem KSt.start (x : List UInt8) (fk0 : Int) : KSt x fk0 (Maps.has KD) fk0 := by
  refine ⟨fun p hp h _ => ?_, .inl rfl⟩
  exfalso
  have : ∀ p ∈ KT, Maps.has KD (.int .i64 p.1) = true := by decide +kernel
  rw [this p hp] at h
  cases h
theorem KSt.no {x : List UInt8} {fk0 : Int} {left : Lit → Bool} {fk k : Int} {l : List UInt8} (h : KSt x fk0 left fk) (hk : (k, l) ∈ KT) (hx : l ≠ x) : KSt x fk0 (fun z => left z && !z.sameKey (.int .i64 k)) fk := by
  refine ⟨fun p hp hl e => ?_, h.2⟩
  refine h.1 p hp ?_ e
  by_cases hpk : p.1 = k
  · exfalso
    have hp2 : ∀ p ∈ KT, ∀ q ∈ KT, p.1 = q.1 → p.2 = q.2 := by decide +kernel
    exact hx ((hp2 _ hk _ hp hpk.symm).trans e)
  · have : (Lit.int .i64 p.1).sameKey (.int .i64 k) = false := by simp [Lit.sameKey, hpk]
    simpa [this] using hl
theorem KSt.yes {x : List UInt8} {fk0 : Int} {left : Lit → Bool} {k : Int} {l : List UInt8} (hk : (k, l) ∈ KT) (hx : l = x) : KSt x fk0 (fun z => left z && !z.sameKey (.int .i64 k)) k :=
  ⟨fun p hp _ e => kt_one _ hk _ hp (by rw [hx, e]), .inr ⟨_, hk, hx, rfl⟩⟩
theorem KSt.done {x : List UInt8} {fk0 : Int} {left : Lit → Bool} {fk : Int} (h : KSt x fk0 left fk) (hl : ∀ kl, left kl = false) : fk = newK fk0 x := by
  unfold newK
  cases hf : KT.find? (fun p => decide (p.2 = x)) with
  | some p =>
    have h1 := List.mem_of_find?_eq_some hf
    have h2 := List.find?_some hf
    exact h.1 p h1 (hl _) (of_decide_eq_true h2)
  | none =>
    rcases h.2 with e | ⟨p, hp, e, _⟩
    · exact e
    · have := List.find?_eq_none.1 hf p hp
      simp [e] at this
theorem intInv1 : ∀ key kl, keyOf Tryd.prog 3 key = some kl → ∃ x, key = Value.int .i64 x := fun _ _ h => by
  obtain ⟨x, rfl, _⟩ := Maps.keyOf_int_inv Tryd.underlying3 h
  exact ⟨x, rfl⟩
set_option maxRecDepth 100000 in
theorem strInv0 {v : Value} {z : DataW Unit × List MemPlace} (h : plainElem Tryd.prog 9 v = some z) : ∃ s : ByteArray, v = .string s ∧ z = (.lit (.string (toL s)), []) := by
  unfold plainElem at h
  rw [Tryd.underlying9] at h
  cases v <;> simp at h
  exact ⟨_, rfl, h.2.symm⟩
theorem strInv1 : ∀ v (z : DataW Unit × List MemPlace), plainElem Tryd.prog 9 v = some z → ∃ c, v = Value.string c := fun _ _ h => by
  obtain ⟨s, rfl, _⟩ := strInv0 h
  exact ⟨s, rfl⟩
def KRel (x5 : World) (b rr mb : Nat) (a : ActD) (dv fv : Value) (x : List UInt8) (wr : World) : Prop := ∃ left cnt fk, wr.ranges Tryd.prog 3 (plainElem Tryd.prog 9) mb rr 7 KD left cnt ∧ KSt x a.fk left fk ∧ Fr [b, rr] x5 wr ∧ wr.heap[b]? = some (.cells (actV { a with fk := fk } dv fv).toArray 28 (0, 0))
end Go.Proofs.YtbmnbhammganfaaDoor
namespace Go.Proofs.YtbmnbhammganfaaDoor
open Go.RowKit Go.Maps

set_option linter.unusedSimpArgs false

def getT (c : UInt8) (a : ActD) : List UInt8 := if c.toNat = 80 then a.path else if c.toNat = 86 then a.ver else if c.toNat = 110 then a.name else a.url
def getB (c : UInt8) (a : ActD) : List UInt8 := if c.toNat = 68 then a.data else a.fdata
def getN (c : UInt8) (a : ActD) : Int := if c.toNat = 78 then a.n else if c.toNat = 77 then a.m else if c.toNat = 65 then a.att else a.fn
def kindW (k : Int) : List UInt8 := match KT.find? (fun p => decide (p.1 = k)) with
  | some p => p.2
  | none => []
def inN (n : Int) : Bool := decide (-4611686018427387904 ≤ n ∧ n ≤ 4611686018427387904)
structure SaSt where
  out : List (List UInt8)
  ok : Bool
  act : ActD
def saidStep (c : UInt8) (s : SaSt) : SaSt :=
  if (tOff c).isSome then ⟨s.out ++ [writeW (getT c s.act)], s.ok, setT c [] s.act⟩
  else if (bOff c).isSome then ⟨s.out ++ [writeW (getB c s.act)], s.ok, setB c [] s.act⟩
  else if (nOff c).isSome then ⟨s.out ++ [Lib.itoa (getN c s.act)], s.ok && inN (getN c s.act), setN c 0 s.act⟩
  else if c.toNat = 75 then ⟨s.out ++ [kindW s.act.fk], s.ok, { s.act with fk := 0 }⟩
  else s
def saidF : List UInt8 → SaSt → SaSt
  | [], s => s
  | c :: r, s => saidF r (saidStep c s)
/-- an act that a call may write -/
structure ActOk (a : ActD) : Prop where
  path : a.path.length ≤ 1048576
  ver : a.ver.length ≤ 1048576
  name : a.name.length ≤ 1048576
  url : a.url.length ≤ 1048576
  data : a.data.length ≤ 1048576
  fdata : a.fdata.length ≤ 1048576
  n : -9223372036854775808 ≤ a.n ∧ a.n ≤ 9223372036854775807
  m : -9223372036854775808 ≤ a.m ∧ a.m ≤ 9223372036854775807
  att : -9223372036854775808 ≤ a.att ∧ a.att ≤ 9223372036854775807
  fn : -9223372036854775808 ≤ a.fn ∧ a.fn ≤ 9223372036854775807
  fk : -9223372036854775808 ≤ a.fk ∧ a.fk ≤ 9223372036854775807
theorem i64_z : -9223372036854775808 ≤ (0 : Int) ∧ (0 : Int) ≤ 9223372036854775807 := by decide
theorem ActOk.step {s : SaSt} (h : ActOk s.act) (c : UInt8) : ActOk (saidStep c s).act := by
  obtain ⟨h1, h2, h3, h4, h5, h6, h7, h8, h9, h10, h11⟩ := h
  unfold saidStep
  repeat' split
  · simp only [setT]
    repeat' split
    all_goals exact ⟨by simp [*], by simp [*], by simp [*], by simp [*], by simp [*], by simp [*], h7, h8, h9, h10, h11⟩
  · simp only [setB]
    repeat' split
    all_goals exact ⟨by simp [*], by simp [*], by simp [*], by simp [*], by simp [*], by simp [*], h7, h8, h9, h10, h11⟩
  · simp only [setN]
    repeat' split
    all_goals exact ⟨h1, h2, h3, h4, h5, h6, by first | exact h7 | exact i64_z, by first | exact h8 | exact i64_z, by first | exact h9 | exact i64_z, by first | exact h10 | exact i64_z, h11⟩
  · exact ⟨h1, h2, h3, h4, h5, h6, h7, h8, h9, h10, i64_z⟩
  · exact ⟨h1, h2, h3, h4, h5, h6, h7, h8, h9, h10, h11⟩
theorem ActOk.getT {a : ActD} (h : ActOk a) (c : UInt8) : (getT c a).length ≤ 1048576 := by
  unfold Go.Proofs.YtbmnbhammganfaaDoor.getT
  repeat' split
  · exact h.path
  · exact h.ver
  · exact h.name
  · exact h.url
theorem ActOk.getB {a : ActD} (h : ActOk a) (c : UInt8) : (getB c a).length ≤ 1048576 := by
  unfold Go.Proofs.YtbmnbhammganfaaDoor.getB
  repeat' split
  · exact h.data
  · exact h.fdata
theorem ActOk.getN {a : ActD} (h : ActOk a) (c : UInt8) : -9223372036854775808 ≤ getN c a ∧ getN c a ≤ 9223372036854775807 := by
  unfold Go.Proofs.YtbmnbhammganfaaDoor.getN
  repeat' split
  · exact h.n
  · exact h.m
  · exact h.att
  · exact h.fn
theorem actV_getT {c : UInt8} {o : Nat} (h : tOff c = some o) (a : ActD) (dv fv : Value) : (actV a dv fv)[o]? = some (.string (mkS (getT c a))) := by
  rcases tOff_cases h with ⟨e, rfl⟩ | ⟨e, rfl⟩ | ⟨e, rfl⟩ | ⟨e, rfl⟩ <;> (unfold getT; rw [e]; rfl)
theorem actV_getN {c : UInt8} {o : Nat} (h : nOff c = some o) (a : ActD) (dv fv : Value) : (actV a dv fv)[o]? = some (.int .i64 (getN c a)) := by
  rcases nOff_cases h with ⟨e, rfl⟩ | ⟨e, rfl⟩ | ⟨e, rfl⟩ | ⟨e, rfl⟩ <;> (unfold getN; rw [e]; rfl)
theorem actV_getB {c : UInt8} {o : Nat} (h : bOff c = some o) (a : ActD) (dv fv : Value) : ∃ v, (actV a dv fv)[o]? = some v ∧ ∀ (Q : Value → List UInt8 → Prop), Q dv a.data → Q fv a.fdata → Q v (getB c a) := by
  rcases bOff_cases h with ⟨e, rfl⟩ | ⟨e, rfl⟩
  · exact ⟨dv, rfl, fun Q h1 _ => by unfold getB; rw [e]; exact h1⟩
  · exact ⟨fv, rfl, fun Q _ h2 => by unfold getB; rw [e]; exact h2⟩
/-- bytes that lie in none of the blocks S -/
def Dq (w : World) (S : List Nat) (v : Value) (l : List UInt8) : Prop := ∃ A c, v = .slice A l.length c ∧ Bs w A c l ∧ (0 < l.length → ∀ a, A = some a → a.block ∉ S)
theorem Dq.nil (w : World) (S : List Nat) : Dq w S nilV [] := ⟨none, 0, rfl, Bs.none_ w, by simp⟩
theorem Dq.fr {w w' : World} {S : List Nat} {v : Value} {l : List UInt8} (h : Dq w S v l) (hf : Fr S w w') : Dq w' S v l := by
  obtain ⟨A, c, h1, h2, h3⟩ := h
  refine ⟨A, c, h1, ⟨h2.len, h2.nil, h2.le, h2.big, fun hn => ?_⟩, h3⟩
  obtain ⟨b, o, rfl, hx⟩ := h2.cells hn
  refine ⟨b, o, rfl, fun j hj => ?_⟩
  have hb := h3 hn _ rfl
  have h4 := hx j hj
  have hl : j < (u8s l).length := by rw [u8s_length]; omega
  rw [List.getElem?_eq_getElem hl] at h4 ⊢
  have hlt := World.block_lt_of_cell? w _ h4
  exact (World.cell?_of_block (hf.block b hlt hb)).trans h4
theorem Dq.lt {w : World} {A : Option Addr} {c : Nat} {l : List UInt8} (h : Bs w A c l) (hn : 0 < l.length) : ∀ a, A = some a → a.block < w.heap.size := fun a ha => by
  obtain ⟨b, o, rfl, hx⟩ := h.cells hn
  cases ha
  have h4 := hx 0 (by omega)
  have hl : 0 < (u8s l).length := by rw [u8s_length]; omega
  rw [List.getElem?_eq_getElem hl] at h4
  exact World.block_lt_of_cell? w _ h4
theorem Dq.more {w : World} {b g : Nat} {v : Value} {l : List UInt8} (h : Dq w [b] v l) (hg : w.heap.size ≤ g) : Dq w [b, g] v l := by
  obtain ⟨A, c, h1, h2, h3⟩ := h
  refine ⟨A, c, h1, h2, fun hn a ha => ?_⟩
  have h4 := h3 hn a ha
  have h5 := Dq.lt h2 hn a ha
  simp at h4 ⊢
  omega
theorem Dq.of_below {w : World} {base : Nat} {v : Value} {l : List UInt8} (h : Dat w base v l) {S : List Nat} (hS : ∀ k, k ∈ S → k < base) : Dq w S v l := by
  obtain ⟨A, c, h1, h2, h3⟩ := h
  exact ⟨A, c, h1, h2, fun _ a ha hh => by have := h3 a ha; have := hS _ hh; omega⟩
theorem Dq.some {w : World} {A : Option Addr} {c : Nat} {l : List UInt8} (h : Bs w A c l) {S : List Nat} (hS : ∀ k, k ∈ S → w.heap.size ≤ k) : Dq w S (.slice A l.length c) l :=
  ⟨A, c, rfl, h, fun hn a ha hh => by have := Dq.lt h hn a ha; have := hS _ hh; omega⟩
theorem Dq.less {w : World} {S S' : List Nat} {v : Value} {l : List UInt8} (h : Dq w S v l) (hs : ∀ k, k ∈ S' → k ∈ S) : Dq w S' v l := by
  obtain ⟨A, c, h1, h2, h3⟩ := h
  exact ⟨A, c, h1, h2, fun hn a ha hh => h3 hn a ha (hs _ hh)⟩
theorem Dq.one {w : World} {S : List Nat} {v : Value} {l : List UInt8} (h : Dq w S v l) : v.oneCell' = true := by
  obtain ⟨A, c, rfl, _⟩ := h
  rfl
theorem Dq.form {w : World} {S : List Nat} {v : Value} {l : List UInt8} (h : Dq w S v l) : ∃ A c, v = .slice A l.length c ∧ Bs w A c l := by
  obtain ⟨A, c, h1, h2, _⟩ := h
  exact ⟨A, c, h1, h2⟩
theorem kindW_at {k : Int} : KD.atKey (.int .i64 k) (wordD []) = wordD (kindW k) := by
  unfold KD DataW.atKey kindW
  simp only [KT, List.map_cons, List.map_nil, List.find?_cons, Lit.sameKey]
  by_cases h2 : 1 = k
  · subst h2; simp
  by_cases h3 : 2 = k
  · subst h3; simp
  by_cases h4 : 3 = k
  · subst h4; simp
  by_cases h5 : 4 = k
  · subst h5; simp
  by_cases h6 : 5 = k
  · subst h6; simp
  by_cases h7 : 6 = k
  · subst h7; simp
  by_cases h8 : 7 = k
  · subst h8; simp
  simp [h2, h3, h4, h5, h6, h7, h8]
/-! the walk's own looks at an operation (with_reducible refine): without them a law is tried at goals that it runs away on -/
theorem at_load {P : Program} {ops : Array Oper} {Q : Exit → Act → World → Prop} {rest : List Oper} {a : Act} {w : World} {d : Option Tmp} {x : Operand} {t : TypeId} {pos : String} {af : Array Edge} {g : Option (Nat × Bool)} (T : TypeId) (h : wpList P ops Q ({ dst := d, op := .load T x, type := t, pos := pos, after := af, guard := g } :: rest) a w) : wpList P ops Q ({ dst := d, op := .load T x, type := t, pos := pos, after := af, guard := g } :: rest) a w := h
theorem at_store {P : Program} {ops : Array Oper} {Q : Exit → Act → World → Prop} {rest : List Oper} {a : Act} {w : World} {d : Option Tmp} {x y : Operand} {t : TypeId} {pos : String} {af : Array Edge} {g : Option (Nat × Bool)} (T : TypeId) (h : wpList P ops Q ({ dst := d, op := .store T x y, type := t, pos := pos, after := af, guard := g } :: rest) a w) : wpList P ops Q ({ dst := d, op := .store T x y, type := t, pos := pos, after := af, guard := g } :: rest) a w := h
theorem zero_str : ∀ w : World, (zeroValue 9).run Tryd.prog w = .ok (.string ⟨#[]⟩) w := fun _ => by kernel_rfl
theorem lookup_word {w : World} {mb : Nat} (h : w.ownsMap Tryd.prog 3 (plainElem Tryd.prog 9) mb 7 KD) {k : Int} (hk : -9223372036854775808 ≤ k ∧ k ≤ 9223372036854775807) :
    ∃ W, (Instr.lookup 80 (.map (some mb)) (.int .i64 k) false).run Tryd.prog w = .ok (.string W) w ∧ toL W = kindW k := by
  obtain ⟨v, ps, hrun, hv⟩ := h.lookup intK Tryd.underlying80 (zero_str w) (strE_word [] (by decide)) (keyOf_int_mk (a := k) Tryd.underlying3 (WalkArith.wf_i64 hk))
  obtain ⟨W, rfl, e⟩ := strInv0 hv
  rw [kindW_at] at e
  refine ⟨W, hrun, ?_⟩
  simp only [wordD, Prod.mk.injEq, DataW.lit.injEq, Lit.string.injEq] at e
  exact e.1.symm
def SaRel (x0 : World) (b g : Nat) (fs : List UInt8) (s0 : SaSt) (ov kv : Value) (wr : World) : Prop :=
  ∃ (i : Nat) (st : SaSt) (L : List ByteArray) (dv fv : Value), i ≤ fs.length ∧ L.length ≤ i ∧ saidF fs s0 = saidF (fs.drop i) st ∧ kv = .bool st.ok ∧ L.map toL = st.out ∧ wr.ownsRow x0.heap.size 9 1 ov L.length (txs L) ∧ ActOk st.act ∧
    Fr [b, g] x0 wr ∧ wr.heap[b]? = some (.cells (actV st.act dv fv).toArray 28 (0, 0)) ∧ wr.heap[g]? = some (.stringIter (mkS fs) i) ∧ Dq x0 [b, g] dv st.act.data ∧ Dq x0 [b, g] fv st.act.fdata
/-- what said hands back -/
def SaPost (w : World) (b : Nat) (fs : List UInt8) (s0 : SaSt) (e : Ending) (w' : World) : Prop :=
  ∃ (L : List ByteArray) (v dv fv : Value), e = .returned (.tuple #[v, .bool (saidF fs s0).ok]) ∧ L.length ≤ 5 ∧ L.map toL = (saidF fs s0).out ∧ w'.ownsRow w.heap.size 9 1 v L.length (txs L) ∧ Fr [b] w w' ∧ ActOk (saidF fs s0).act ∧
    w'.heap[b]? = some (.cells (actV (saidF fs s0).act dv fv).toArray 28 (0, 0)) ∧ Dq w' [b] dv (saidF fs s0).act.data ∧ Dq w' [b] fv (saidF fs s0).act.fdata
end Go.Proofs.YtbmnbhammganfaaDoor
namespace Go.Proofs.YtbmnbhammganfaaDoor
open Go.RowKit Go.Maps

set_option linter.unusedSimpArgs false

attribute [local go_sem] lt1 lt2 lt3 lt4 lt5 lt6

/-- words, one blank between -/
def joinB : List (List UInt8) → List UInt8
  | [] => []
  | [x] => x
  | x :: y :: r => x ++ 32 :: joinB (y :: r)
theorem join_eq (l : List (List UInt8)) : Lib.join l [32] = joinB l := by
  induction l with
  | nil => rfl
  | cons x r ih =>
    cases r with
    | nil => simp [Lib.join, joinB, List.intercalate]
    | cons y r =>
      rw [joinB, ← ih]
      simp [Lib.join, List.intercalate]
/-- a line that is not too long -/
def limP (l : List (List UInt8)) : List UInt8 × Int := if 65536 < (joinB l).length then ([], 13) else (joinB l, 0)
def LiPost (w : World) (l : List (List UInt8)) (e : Ending) (w' : World) : Prop := e = .returned (.tuple #[.string (mkS (limP l).1), .int .i64 (limP l).2]) ∧ Below w.heap.size w w'
theorem join_call (w : World) (D : List ByteArray) (A : Option Addr) (c : Nat) (hs : Sl w A c D.length 1 (txs D)) (hl : (joinB (D.map toL)).length ≤ 140737488355328) (hn : D.length ≤ 140737488355328) :
    Calls Tryd.prog 53 #[.slice A D.length c, .string ⟨#[32]⟩] w fun e w' => e = .returned (.string (mkS (joinB (D.map toL)))) ∧ Below w.heap.size w w' := by
  rcases Nat.eq_zero_or_pos D.length with h0 | h0
  · have hD : D = [] := List.eq_nil_of_length_eq_zero h0
    subst hD
    refine (Tryd.strings_Join_none A c ⟨#[32]⟩ w).mono ?_
    rintro e w' ⟨rfl, rfl⟩
    exact ⟨rfl, Below.refl _ _⟩
  · obtain ⟨b, o, hA, hx⟩ := hs.cells h0
    have hj : Lib.join (D.map (·.data.toList)) [32] = joinB (D.map toL) := join_eq _
    have hbk : b < w.heap.size := by
      have h1 := hx 0 (by omega)
      have hl : 0 < (txs D).length := by rw [txs_length]; exact h0
      rw [List.getElem?_eq_getElem hl] at h1
      exact World.block_lt_of_cell? w _ h1
    have hcells : ∀ (j : Nat) x, D[j]? = some x → w.cell? ⟨b, o + j, none⟩ = some (.string x) := fun j x hjx => by
      have hj := (List.getElem?_eq_some_iff.1 hjx).1
      rw [hx j (by omega), txs, List.getElem?_map, hjx]
      rfl
    rw [hA]
    refine (Tryd.strings_Join b o c D ⟨#[32]⟩ w hcells hbk (by omega) hs.le ?_).mono ?_
    · show (Lib.join (D.map (·.data.toList)) [32]).length ≤ _
      rw [hj]
      exact hl
    · rintro e w' ⟨he, hB⟩
      refine ⟨?_, hB⟩
      rw [he]
      show Ending.returned (.string ⟨(Lib.join (D.map (·.data.toList)) [32]).toArray⟩) = _
      rw [hj]
      rfl
theorem limited_any (w : World) (D : List ByteArray) (A : Option Addr) (c : Nat) (hs : Sl w A c D.length 1 (txs D)) (hl : (joinB (D.map toL)).length ≤ 140737488355328) (hn : D.length ≤ 140737488355328) :
    Calls Tryd.prog 36 #[.slice A D.length c] w (LiPost w (D.map toL)) := by
  have hj := join_call w D A c hs hl hn
  have Hj := Lib.hid hj
  clear hj hs
  by_cases h : 65536 < (joinB (D.map toL)).length
  · have hI : (65536 : Int) < ((mkS (joinB (D.map toL))).size : Int) := by rw [mkS_size]; omega
    have Hp : Hid (limP (D.map toL) = ([], 13)) := Lib.hid (by unfold limP; rw [if_pos h])
    clear h hl
    go_enter Tryd.func36, Tryd.ntmps36
    go_wp2_with fail
    refine Hj.out.mono ?_
    rintro e w1 ⟨rfl, hB⟩
    have HB := Lib.hid hB
    clear hB
    go_wp2_with fail
    go_ret2
    exact ⟨by rw [Hp.out]; rfl, HB.out⟩
  · have hI : ¬ (65536 : Int) < ((mkS (joinB (D.map toL))).size : Int) := by rw [mkS_size]; omega
    have Hp : Hid (limP (D.map toL) = (joinB (D.map toL), 0)) := Lib.hid (by unfold limP; rw [if_neg h])
    clear h hl
    go_enter Tryd.func36, Tryd.ntmps36
    go_wp2_with fail
    refine Hj.out.mono ?_
    rintro e w1 ⟨rfl, hB⟩
    have HB := Lib.hid hB
    clear hB
    go_wp2_with fail
    go_ret2
    exact ⟨by rw [Hp.out]; rfl, HB.out⟩
theorem joinB_len (B : Nat) : ∀ l : List (List UInt8), (∀ x ∈ l, x.length ≤ B) → (joinB l).length ≤ l.length * (B + 1)
  | [], _ => by simp [joinB]
  | [x], h => by
    have := h x (by simp)
    simp [joinB]
    omega
  | x :: y :: r, h => by
    have h1 := h x (by simp)
    have h2 := joinB_len B (y :: r) fun z hz => h z (by simp at hz ⊢; rcases hz with hz | hz <;> simp [hz])
    rw [joinB, List.length_append, List.length_cons, List.length_cons, Nat.succ_mul]
    omega
theorem writeW_len (l : List UInt8) : (writeW l).length ≤ 6 * l.length + 2 := by
  unfold writeW
  split
  · omega
  · have := quotes_len l
    unfold quoteL
    rw [List.length_cons, List.length_append]
    simp only [List.length_cons, List.length_nil]
    omega
theorem kindW_len (k : Int) : (kindW k).length ≤ 5 := by
  unfold kindW
  split
  · rename_i p hp
    have h1 := List.mem_of_find?_eq_some hp
    have : ∀ p ∈ KT, p.2.length ≤ 5 := by decide +kernel
    exact this p h1
  · simp
theorem saidF_len : ∀ (fs : List UInt8) (s : SaSt), ActOk s.act → (∀ x ∈ s.out, x.length ≤ 7000000) → ∀ x ∈ (saidF fs s).out, x.length ≤ 7000000
  | [], _, _, h => h
  | c :: r, s, ha, h => by
    rw [saidF]
    refine saidF_len r _ (ha.step c) ?_
    have h1 := ha.getT c
    have h2 := ha.getB c
    have h3 := ha.getN c
    have h4 := writeW_len (getT c s.act)
    have h5 := writeW_len (getB c s.act)
    have h6 := itoa_len h3.1 h3.2
    have h7 := kindW_len s.act.fk
    unfold saidStep
    repeat' split
    all_goals (intro x hx; try simp only [List.mem_append, List.mem_singleton] at hx)
    · rcases hx with hx | rfl
      · exact h x hx
      · omega
    · rcases hx with hx | rfl
      · exact h x hx
      · omega
    · rcases hx with hx | rfl
      · exact h x hx
      · omega
    · rcases hx with hx | rfl
      · exact h x hx
      · omega
    · exact h x hx
theorem forms_len {f : Form} (h : f ∈ FORMS) : f.word.length ≤ 9 ∧ f.second.length ≤ 9 := by
  have : ∀ f ∈ FORMS, f.word.length ≤ 9 ∧ f.second.length ≤ 9 := by decide +kernel
  exact this f h
end Go.Proofs.YtbmnbhammganfaaDoor
namespace Go.Proofs.YtbmnbhammganfaaDoor
open Go.RowKit Go.Maps

set_option linter.unusedSimpArgs false

attribute [local go_sem] lt1 lt2 lt3 lt4 lt5 lt6

def zeroA (a : ActD) : Bool := decide (a.ck = 0 ∧ a.path = [] ∧ a.ver = []) && decide (a.url = []) && decide (a.att = 0) && decide (a.fk = 0) && decide (a.fn = 0) && decide (a.fdata = []) && decide (a.name = []) && decide (a.data = []) && decide (a.n = 0) && decide (a.m = 0)
set_option maxRecDepth 100000 in
set_option maxHeartbeats 4000000 in
theorem zero_any (w : World) (a : ActD) (A1 A2 : Option Addr) (c1 c2 : Nat) :
    Calls Tryd.prog 35 #[.agg (actV a (.slice A1 a.data.length c1) (.slice A2 a.fdata.length c2)).toArray] w fun e w' => e = .returned (.bool (zeroA a)) ∧ Below w.heap.size w w' := by
  unfold actV
  obtain ⟨kind, ck, path, ver, name, data, n, m, url, att, fk, fn, fdata⟩ := a
  simp only
  obtain ⟨P1, hP1⟩ : ∃ x, x = mkS path := ⟨_, rfl⟩
  obtain ⟨P2, hP2⟩ : ∃ x, x = mkS ver := ⟨_, rfl⟩
  obtain ⟨P3, hP3⟩ : ∃ x, x = mkS name := ⟨_, rfl⟩
  obtain ⟨P4, hP4⟩ : ∃ x, x = mkS url := ⟨_, rfl⟩
  rw [← hP1, ← hP2, ← hP3, ← hP4]
  have e1 : P1.toList = path := by rw [hP1, toList_toL, toL_mkS]
  have e2 : P2.toList = ver := by rw [hP2, toList_toL, toL_mkS]
  have e3 : P3.toList = name := by rw [hP3, toList_toL, toL_mkS]
  have e4 : P4.toList = url := by rw [hP4, toList_toL, toL_mkS]
  clear hP1 hP2 hP3 hP4
  go_enter Tryd.func35, Tryd.ntmps35
  go_wp2_with fail
  all_goals (go_ret; refine ⟨bool_ret ?_, (Below.refl _ _).alloc (Nat.le_refl _) _⟩; (simp_all [zeroA] <;> rfl))
end Go.Proofs.YtbmnbhammganfaaDoor
namespace Go.Proofs.YtbmnbhammganfaaDoor
open Go.RowKit

theorem uniL_behind (l : List UInt8) : uniL (l ++ [32]) = uniL l := by
  match l with
  | [] => rfl
  | [a] => simp [uniL]
  | [a, b] => simp [uniL]
  | [a, b, c] => simp [uniL]
  | [a, b, c, d] =>
    have h32 : hexV 32 = none := by decide
    simp only [List.cons_append, List.nil_append, uniL]
    split <;> simp_all [uniL]
  | a :: b :: c :: d :: e :: r =>
    simp only [List.cons_append]
    unfold uniL
    split
    · rename_i h
      cases h
      rfl
    · rename_i h
      split
      · rename_i h2
        cases h2
        exact absurd rfl (h _ _ _)
      · rfl
theorem escL_behind (l : List UInt8) : escL (l ++ [32]) = escL l := by
  cases l with
  | nil => rfl
  | cons c r =>
    have h := uniL_behind (c :: r)
    rw [List.cons_append] at h ⊢
    rw [escL_cons, escL_cons, h]
theorem quotedK_behind : ∀ (n : Nat) (l : List UInt8), n ≤ l.length → quotedK n (l ++ [32]) = (quotedK n l).map fun p => (p.1, p.2 ++ [32])
  | 0, [], _ => by decide
  | n + 1, [], h => by simp at h
  | n + 1, c :: r, h => by
    rw [List.cons_append, quotedK, quotedK]
    exact quotedK_behind n r (by simpa using h)
  | 0, c :: r, _ => by
    have he := escL_behind r
    rw [List.cons_append, quotedK, quotedK, he]
    by_cases h1 : oddB c = true
    · rw [if_pos h1, if_pos h1]; rfl
    rw [if_neg h1, if_neg h1]
    by_cases h2 : c = 34
    · rw [if_pos h2, if_pos h2]; rfl
    rw [if_neg h2, if_neg h2]
    by_cases h3 : c = 92
    · rw [if_pos h3, if_pos h3]
      cases h4 : escL r with
      | none => rfl
      | some q =>
        obtain ⟨x, n⟩ := q
        simp only
        rw [quotedK_behind n r (escL_len h4).2]
        cases quotedK n r <;> rfl
    · rw [if_neg h3, if_neg h3]
      rw [quotedK_behind 0 r (Nat.zero_le _)]
      cases quotedK 0 r <;> rfl
theorem takeWhile_behind (l : List UInt8) : (l ++ [32]).takeWhile bareB = l.takeWhile bareB ∧ (l ++ [32]).dropWhile bareB = l.dropWhile bareB ++ [32] := by
  have h32 : bareB 32 = false := by decide
  induction l with
  | nil => simp [h32]
  | cons c r ih =>
    by_cases h : bareB c = true
    · rw [List.cons_append, List.takeWhile_cons_of_pos h, List.takeWhile_cons_of_pos h, List.dropWhile_cons_of_pos h, List.dropWhile_cons_of_pos h, ih.1, ih.2]
      exact ⟨rfl, rfl⟩
    · rw [List.cons_append, List.takeWhile_cons_of_neg h, List.takeWhile_cons_of_neg h, List.dropWhile_cons_of_neg h, List.dropWhile_cons_of_neg h]
      exact ⟨rfl, rfl⟩
theorem rawW_behind {r : List UInt8} (h : r ≠ []) : rawW (r ++ [32]) = (rawW r).map fun p => (p.1, p.2 ++ [32]) := by
  cases r with
  | nil => exact absurd rfl h
  | cons c t =>
    have hw := takeWhile_behind (c :: t)
    rw [List.cons_append] at hw ⊢
    rw [rawW_cons, rawW_cons, hw.1, hw.2, quotedK_behind 0 t (Nat.zero_le _)]
    by_cases h1 : c = 34
    · rw [if_pos h1, if_pos h1]
    rw [if_neg h1, if_neg h1]
    by_cases h2 : bareB c = true
    · rw [if_pos h2, if_pos h2]; rfl
    · rw [if_neg h2, if_neg h2]; rfl
theorem endW_behind (l : List UInt8) : endW (l ++ [32]) ↔ endW l := by
  cases l with
  | nil => simp [endW]
  | cons c r => simp [endW]
theorem wordL_behind {r : List UInt8} (h : r ≠ []) : wordL (r ++ [32]) = (wordL r).map fun p => (p.1, p.2 ++ [32]) := by
  unfold wordL
  rw [rawW_behind h]
  cases rawW r with
  | none => rfl
  | some p =>
    simp only [Option.map_some]
    by_cases he : endW p.2
    · rw [if_pos he, if_pos ((endW_behind _).2 he)]; rfl
    · rw [if_neg he, if_neg (fun h => he ((endW_behind _).1 h))]; rfl
theorem trimB_behind (s : List UInt8) : trimB (s ++ [32]) = if trimB s = [] then [] else trimB s ++ [32] := by
  unfold trimB
  induction s with
  | nil => simp
  | cons c r ih =>
    by_cases h : c = 32
    · rw [List.cons_append, List.dropWhile_cons_of_pos (by simpa using h), List.dropWhile_cons_of_pos (by simpa using h)]
      exact ih
    · rw [List.cons_append, List.dropWhile_cons_of_neg (by simpa using h), List.dropWhile_cons_of_neg (by simpa using h), if_neg (by simp)]
      rfl
theorem wordsL_behind_ : ∀ (n : Nat) (s : List UInt8), s.length ≤ n → wordsL (s ++ [32]) = wordsL s
  | n, s, hn => by
    rw [wordsL_eq, wordsL_eq s, trimB_behind]
    by_cases h : trimB s = []
    · rw [if_pos h, if_pos h]; rfl
    · rw [if_neg h, if_neg h, if_neg (by simp), wordL_behind h]
      cases hw : wordL (trimB s) with
      | none => rfl
      | some p =>
        have h1 := wordL_len hw
        have h2 := trimB_le s
        match n with
        | 0 => omega
        | n + 1 =>
          have ih := wordsL_behind_ n p.2 (by omega)
          simp only [Option.map_some]
          rw [ih]
theorem wordsL_behind (s : List UInt8) : wordsL (s ++ [32]) = wordsL s := wordsL_behind_ s.length s (Nat.le_refl _)
/-- words, each quoted, behind three blanks -/
def wideL (l : List (List UInt8)) : List UInt8 := l.flatMap fun x => 32 :: 32 :: 32 :: quoteL x
theorem wideL_end (l : List (List UInt8)) : endW (wideL l) := by
  cases l with
  | nil => exact .inl rfl
  | cons x r => exact .inr rfl
theorem wordsL_wide : ∀ l : List (List UInt8), wordsL (wideL l) = some l
  | [] => rfl
  | x :: r => by
    have ih := wordsL_wide r
    have hx : wideL (x :: r) = 32 :: 32 :: 32 :: (quoteL x ++ wideL r) := rfl
    have hq := wordL_quote x (wideL r) (wideL_end r)
    have ht : trimB (quoteL x ++ wideL r) = quoteL x ++ wideL r := trimB_no ⟨34, _, rfl, by decide⟩
    rw [hx, wordsL_blank, wordsL_blank, wordsL_blank, wordsL_eq, ht, if_neg (by simp [quoteL]), hq]
    simp only
    rw [ih]
    rfl
theorem wordsF_sum : ∀ (n : Nat) (s : List UInt8) (l : List (List UInt8)), wordsF n s = some l → (l.map List.length).sum ≤ s.length ∧ l.length ≤ s.length
  | 0, _, _, h => by simp [wordsF] at h
  | n + 1, s, l, h => by
    unfold wordsF at h
    split at h
    · cases h
      simp
    · split at h
      · cases h
      · rename_i p hp
        rw [Option.map_eq_some_iff] at h
        obtain ⟨q, h1, rfl⟩ := h
        have h3 := wordL_wlen hp
        have h5 := wordL_len hp
        have h4 := trimB_le s
        have ⟨h6, h7⟩ := wordsF_sum n p.2 q h1
        rw [List.map_cons, List.sum_cons, List.length_cons]
        exact ⟨by omega, by omega⟩
theorem quoteL_len_le (x : List UInt8) : (quoteL x).length ≤ 6 * x.length + 2 := by
  have hb : ∀ c : UInt8, (quoteB c).length ≤ 6 := fun c => by
    unfold quoteB
    split
    · simp
    · split <;> simp
  have h : ∀ l : List UInt8, (l.flatMap quoteB).length ≤ 6 * l.length := fun l => by
    induction l with
    | nil => simp
    | cons c r ih =>
      have := hb c
      rw [List.flatMap_cons, List.length_append, List.length_cons]
      omega
  have := h x
  unfold quoteL
  rw [List.length_cons, List.length_append, List.length_singleton]
  omega
theorem wideL_len (l : List (List UInt8)) : (wideL l).length ≤ 6 * (l.map List.length).sum + 5 * l.length := by
  induction l with
  | nil => simp [wideL]
  | cons x r ih =>
    have h1 : wideL (x :: r) = 32 :: 32 :: 32 :: (quoteL x ++ wideL r) := rfl
    have h2 := quoteL_len_le x
    rw [h1, List.length_cons, List.length_cons, List.length_cons, List.length_append, List.map_cons, List.sum_cons, List.length_cons]
    omega
theorem wideL_snoc (l : List (List UInt8)) (x : List UInt8) : wideL (l ++ [x]) = wideL l ++ (32 :: 32 :: 32 :: quoteL x) := by simp [wideL]
theorem wideL_take {l : List (List UInt8)} {s : List UInt8} (h : wordsL s = some l) (k : Nat) : (wideL (l.take k)).length ≤ 11 * s.length := by
  have h1 := wordsF_sum _ _ _ h
  have h2 := wideL_len (l.take k)
  have h3 : ((l.take k).map List.length).sum ≤ (l.map List.length).sum := by
    have h5 : (l.map List.length).sum = ((l.take k).map List.length).sum + ((l.drop k).map List.length).sum := by rw [← List.sum_append, ← List.map_append, List.take_append_drop]
    omega
  have h4 : (l.take k).length ≤ l.length := by rw [List.length_take]; omega
  omega
/-- blanks at the ends change nothing -/
theorem ends_words {s t : List UInt8} (hs : s.length ≤ 65536) (ht : t.length ≤ 65536) (h : wordsL t = wordsL s) : wordsErr t = wordsErr s ∧ wordsOf t = wordsOf s ∧ parseA t = parseA s := by
  have h1 : wordsErr t = wordsErr s := by unfold wordsErr; rw [if_neg (by omega), if_neg (by omega), h]
  have h2 : wordsOf t = wordsOf s := by unfold wordsOf; rw [if_neg (by omega), if_neg (by omega), h]
  exact ⟨h1, h2, by unfold parseA; rw [h1, h2]⟩
theorem wide_words {s : List UInt8} (hs : s.length ≤ 2000) (h0 : wordsErr s = 0) : wordsErr (wideL (wordsOf s)) = 0 ∧ wordsOf (wideL (wordsOf s)) = wordsOf s ∧ parseA (wideL (wordsOf s)) = parseA s ∧ ∀ k, (wideL ((wordsOf s).take k)).length ≤ 22000 := by
  cases hl : wordsL s with
  | none => have := (words_bad (by omega) hl).1; rw [this] at h0; cases h0
  | some l =>
    have h1 := (words_good (by omega) hl).2
    have h2 : ∀ k, (wideL (l.take k)).length ≤ 22000 := fun k => by have := wideL_take hl k; omega
    have h3 := h2 l.length
    rw [List.take_of_length_le (Nat.le_refl _)] at h3
    rw [h1]
    have h4 := ends_words (s := s) (t := wideL l) (by omega) (by omega) (by rw [wordsL_wide, hl])
    rw [h0, h1] at h4
    exact ⟨h4.1, h4.2.1, h4.2.2, h2⟩
end Go.Proofs.YtbmnbhammganfaaDoor
namespace Go.Proofs.YtbmnbhammganfaaDoor
open Go.RowKit Go.Maps

set_option linter.unusedSimpArgs false

attribute [local go_sem] lt1 lt2 lt3 lt4 lt5 lt6

instance : DecidableEq ActD := fun a b => by
  cases a; cases b
  simp only [ActD.mk.injEq]
  exact inferInstance
theorem below_two {w : World} (x y : Obj) (n : Nat) : Below w.heap.size w (((w.alloc x).alloc y).drewN n) :=
  below_drewN (((Below.refl w.heap.size w).alloc (Nat.le_refl _) x).alloc (((Below.refl w.heap.size w).alloc (Nat.le_refl _) x).size) y) n
set_option maxRecDepth 100000 in
set_option maxHeartbeats 8000000 in
theorem sameAct_any (w : World) (a b : ActD) (A1 A2 B1 B2 : Option Addr) (c1 c2 d1 d2 : Nat) (h1 : Bs w A1 c1 a.data) (h2 : Bs w A2 c2 a.fdata) (h3 : Bs w B1 d1 b.data) (h4 : Bs w B2 d2 b.fdata) :
    Calls Tryd.prog 13 #[.agg (actV a (.slice A1 a.data.length c1) (.slice A2 a.fdata.length c2)).toArray, .agg (actV b (.slice B1 b.data.length d1) (.slice B2 b.fdata.length d2)).toArray] w fun e w' => e = .returned (.bool (decide (a = b))) ∧ Below w.heap.size w w' := by
  unfold actV
  obtain ⟨kind, ck, path, ver, name, data, n, m, url, att, fk, fn, fdata⟩ := a
  obtain ⟨kind', ck', path', ver', name', data', n', m', url', att', fk', fn', fdata'⟩ := b
  simp only at h1 h2 h3 h4 ⊢
  have H1 := Lib.hid h1
  have H2 := Lib.hid h2
  have H3 := Lib.hid h3
  have H4 := Lib.hid h4
  clear h1 h2 h3 h4
  obtain ⟨P1, hP1⟩ : ∃ x, x = mkS path := ⟨_, rfl⟩
  obtain ⟨P2, hP2⟩ : ∃ x, x = mkS ver := ⟨_, rfl⟩
  obtain ⟨P3, hP3⟩ : ∃ x, x = mkS name := ⟨_, rfl⟩
  obtain ⟨P4, hP4⟩ : ∃ x, x = mkS url := ⟨_, rfl⟩
  obtain ⟨Q1, hQ1⟩ : ∃ x, x = mkS path' := ⟨_, rfl⟩
  obtain ⟨Q2, hQ2⟩ : ∃ x, x = mkS ver' := ⟨_, rfl⟩
  obtain ⟨Q3, hQ3⟩ : ∃ x, x = mkS name' := ⟨_, rfl⟩
  obtain ⟨Q4, hQ4⟩ : ∃ x, x = mkS url' := ⟨_, rfl⟩
  rw [← hP1, ← hP2, ← hP3, ← hP4, ← hQ1, ← hQ2, ← hQ3, ← hQ4]
  have e1 : P1.toList = path := by rw [hP1, toList_toL, toL_mkS]
  have e2 : P2.toList = ver := by rw [hP2, toList_toL, toL_mkS]
  have e3 : P3.toList = name := by rw [hP3, toList_toL, toL_mkS]
  have e4 : P4.toList = url := by rw [hP4, toList_toL, toL_mkS]
  have f1 : Q1.toList = path' := by rw [hQ1, toList_toL, toL_mkS]
  have f2 : Q2.toList = ver' := by rw [hQ2, toList_toL, toL_mkS]
  have f3 : Q3.toList = name' := by rw [hQ3, toList_toL, toL_mkS]
  have f4 : Q4.toList = url' := by rw [hQ4, toList_toL, toL_mkS]
  clear hP1 hP2 hP3 hP4 hQ1 hQ2 hQ3 hQ4
  go_enter Tryd.func13, Tryd.ntmps13
  go_wp2_with fail
  have HB2 := Lib.hid (below_two (w := w) (.cells #[.int .i64 kind, .int .i64 ck, .string P1, .string P2, .string P3, .slice A1 data.length c1, .int .i64 n, .int .i64 m, .string P4, .int .i64 att, .int .i64 fk, .int .i64 fn, .slice A2 fdata.length c2] 28) (.cells #[.int .i64 kind', .int .i64 ck', .string Q1, .string Q2, .string Q3, .slice B1 data'.length d1, .int .i64 n', .int .i64 m', .string Q4, .int .i64 att', .int .i64 fk', .int .i64 fn', .slice B2 fdata'.length d2] 28) 0)
  refine (same_any data data' A1 B1 c1 d1 _ (H1.out.keep (Cells.of_below HB2.out)) (H3.out.keep (Cells.of_below HB2.out))).mono ?_
  rintro e w1 ⟨rfl, n1, rfl⟩
  by_cases hx : data = data'
  · have hb1 : (data == data') = true := beq_iff_eq.2 hx
    rw [hb1]
    have Hx := Lib.hid hx
    clear hx hb1
    go_wp2_with fail
    refine (same_any fdata fdata' A2 B2 c2 d2 _ (H2.out.keep (Cells.of_below (below_drewN HB2.out _))) (H4.out.keep (Cells.of_below (below_drewN HB2.out _)))).mono ?_
    rintro e w1 ⟨rfl, n2, rfl⟩
    have Hb := Lib.hid (below_drewN (below_drewN HB2.out n1) n2)
    obtain ⟨bb, hbb⟩ : ∃ x, x = (fdata == fdata') := ⟨_, rfl⟩
    rw [← hbb]
    have Hbb := Lib.hid hbb
    clear hbb HB2
    go_wp2_with fail
    all_goals (go_ret; refine ⟨bool_ret ?_, below_two _ _ _⟩; (have hx := Hx.out; have hbb := Hbb.out; clear Hx Hbb Hb H1 H2 H3 H4; simp_all [ActD.mk.injEq] <;> rfl))
  · have hb1 : (data == data') = false := beq_eq_false_iff_ne.2 hx
    rw [hb1]
    have Hx := Lib.hid hx
    have Hb := Lib.hid (below_drewN HB2.out n1)
    clear hx hb1 HB2
    go_wp2_with fail
    all_goals (go_ret; refine ⟨bool_ret ?_, below_two _ _ _⟩; (have hx := Hx.out; clear Hx Hb H1 H2 H3 H4; simp_all [ActD.mk.injEq] <;> rfl))
end Go.Proofs.YtbmnbhammganfaaDoor
