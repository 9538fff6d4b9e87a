/-
  Laws for text.ParseAct.
-/
import Derived.Test.YtlljjddgbilipaaGreatDoorTxAct
namespace Go.Proofs.YtlljjddgbilipaaGreatDoor
open Go.RowKit Go.Maps

set_option linter.unusedSimpArgs false

attribute [local go_sem] lt1 lt2 lt3 lt4 lt5 lt6

/-- what ParseAct hands back -/
def PaPost (w : World) (s : ByteArray) (e : Ending) (w' : World) : Prop := ∃ (a : ActD) (dv fv : Value), e = .returned (.tuple #[.agg (actV a dv fv).toArray, .int .i64 (parseA (toL s)).2]) ∧ a = (parseA (toL s)).1 ∧ Dat w' w.heap.size dv a.data ∧ Dat w' w.heap.size fv a.fdata ∧ Below w.heap.size w w'
theorem pa_zero {w w' : World} {s : ByteArray} {n : Int} (h : parseA (toL s) = (zAct, n)) (hB : Below w.heap.size w w') : PaPost w s (.returned (.tuple #[.agg (actV zAct nilV nilV).toArray, .int .i64 n])) w' :=
  ⟨zAct, nilV, nilV, by rw [h], by rw [h], Dat.nil _ _, Dat.nil _ _, hB⟩
theorem parseA_err {s : List UInt8} (h : wordsErr s ≠ 0) : parseA s = (zAct, wordsErr s) := by unfold parseA; rw [if_pos h]
theorem parseA_ok {s : List UInt8} (h : wordsErr s = 0) : parseA s = parseW (wordsOf s) := by unfold parseA; rw [if_neg (by rw [h]; decide)]
theorem actZ_one : ((actV zAct nilV nilV).toArray.all (·.oneCell') = true) := all_oneCell_toArray (actV_one rfl rfl)
def PaRel (x0 : World) (b g : Nat) (fs : List UInt8) (ws : List (List UInt8)) (s0 : ActD × Bool) (sv : Value) (wr : World) : Prop :=
  ∃ (i : Nat) (st : ActD × Bool) (dv fv : Value), i ≤ fs.length ∧ parseF fs ws s0 = parseF (fs.drop i) (ws.drop i) st ∧ sv = .bool st.2 ∧ Fr [b, g] x0 wr ∧ wr.heap[b]? = some (.cells (actV st.1 dv fv).toArray 57 (0, 0)) ∧ wr.heap[g]? = some (.stringIter (mkS fs) i) ∧ Dat wr x0.heap.size dv st.1.data ∧ Dat wr x0.heap.size fv st.1.fdata
/-- a step of a range over a text, in whatever world -/
theorem run_next_at {P : Program} {w : World} {g : Nat} {s : ByteArray} {pos : Nat} (ty : TypeId) (hg : w.heap[g]? = some (.stringIter s pos)) (h : pos < s.size) (ha : (s[pos]'h).toNat < 128) :
    (Instr.next (.pointer (some ⟨g, 0, none⟩)) true ty).run P w = .ok (.tuple #[.bool true, .int .i64 pos, .int .i32 (s[pos]'h).toNat]) (ChangeMaps.setBlock w g (.stringIter s (pos + 1))) := by
  simp [Instr.next, getObj, setObj, Sem.run_bind, Sem.run, hg, Result.andThen, h, decode_ascii s pos h ha, goInt, ChangeMaps.setBlock]
theorem run_next_end_at {P : Program} {w : World} {g : Nat} {s : ByteArray} {pos : Nat} (ty : TypeId) (hg : w.heap[g]? = some (.stringIter s pos)) (h : ¬ pos < s.size) :
    (Instr.next (.pointer (some ⟨g, 0, none⟩)) true ty).run P w = .ok (.tuple #[.bool false]) w := by
  simp [Instr.next, getObj, Sem.run, hg, h]
theorem pa_next {fs : List UInt8} {ws : List (List UInt8)} {s0 st st' : ActD × Bool} {i : Nat} {c : UInt8} {x : List UInt8} (hi : i < fs.length) (hc : c = fs.getD i 0) (hx : ws[i]? = some x) (hpf : parseF fs ws s0 = parseF (fs.drop i) (ws.drop i) st) (hst : stepF c x st = some st') :
    parseF fs ws s0 = parseF (fs.drop (i + 1)) (ws.drop (i + 1)) st' := by
  obtain ⟨hj, he⟩ := List.getElem?_eq_some_iff.1 hx
  rw [hpf, drop_getD hi, ← hc, List.drop_eq_getElem_cons hj, he, parseF, hst]
theorem pa_fail {fs : List UInt8} {ws : List (List UInt8)} {s0 st : ActD × Bool} {i : Nat} {c : UInt8} {x : List UInt8} (hi : i < fs.length) (hc : c = fs.getD i 0) (hx : ws[i]? = some x) (hpf : parseF fs ws s0 = parseF (fs.drop i) (ws.drop i) st) (hst : stepF c x st = none) :
    parseF fs ws s0 = none := by
  obtain ⟨hj, he⟩ := List.getElem?_eq_some_iff.1 hx
  rw [hpf, drop_getD hi, ← hc, List.drop_eq_getElem_cons hj, he, parseF, hst]
theorem forms_ascii {f : Form} (h : f ∈ FORMS) : ∀ c ∈ f.fields, c.toNat < 128 := by
  have : ∀ f ∈ FORMS, ∀ c ∈ f.fields, c.toNat < 128 := by decide +kernel
  exact this f h
theorem findL_mem : ∀ {l : List Form} {x : List (List UInt8)} {f : Form} {k : Nat}, findL l x = some (f, k) → f ∈ l
  | [], _, _, _, h => by simp [findL] at h
  | g :: r, x, f, k, h => by
    rw [findL] at h
    split at h
    · cases h
      simp
    · exact List.mem_cons_of_mem _ (findL_mem h)
theorem tOff_cases {c : UInt8} {o : Nat} (h : tOff c = some o) : (c.toNat = 80 ∧ o = 2) ∨ (c.toNat = 86 ∧ o = 3) ∨ (c.toNat = 110 ∧ o = 4) ∨ (c.toNat = 85 ∧ o = 8) := by
  unfold tOff at h
  repeat' split at h
  all_goals first | (cases h; omega) | cases h
theorem bOff_cases {c : UInt8} {o : Nat} (h : bOff c = some o) : (c.toNat = 68 ∧ o = 5) ∨ (c.toNat = 66 ∧ o = 12) := by
  unfold bOff at h
  repeat' split at h
  all_goals first | (cases h; omega) | cases h
theorem nOff_cases {c : UInt8} {o : Nat} (h : nOff c = some o) : (c.toNat = 78 ∧ o = 6) ∨ (c.toNat = 77 ∧ o = 7) ∨ (c.toNat = 65 ∧ o = 9) ∨ (c.toNat = 70 ∧ o = 11) := by
  unfold nOff at h
  repeat' split at h
  all_goals first | (cases h; omega) | cases h
theorem actV_setT {c : UInt8} {o : Nat} (h : tOff c = some o) (a : ActD) (x : List UInt8) (dv fv : Value) : (actV a dv fv).set o (.string (mkS x)) = actV (setT c x a) dv fv ∧ (setT c x a).data = a.data ∧ (setT c x a).fdata = a.fdata := by
  rcases tOff_cases h with ⟨e, rfl⟩ | ⟨e, rfl⟩ | ⟨e, rfl⟩ | ⟨e, rfl⟩ <;> (unfold setT; rw [e]; exact ⟨rfl, rfl, rfl⟩)
theorem actV_setN {c : UInt8} {o : Nat} (h : nOff c = some o) (a : ActD) (n : Int) (dv fv : Value) : (actV a dv fv).set o (.int .i64 n) = actV (setN c n a) dv fv ∧ (setN c n a).data = a.data ∧ (setN c n a).fdata = a.fdata := by
  rcases nOff_cases h with ⟨e, rfl⟩ | ⟨e, rfl⟩ | ⟨e, rfl⟩ | ⟨e, rfl⟩ <;> (unfold setN; rw [e]; exact ⟨rfl, rfl, rfl⟩)
theorem actV_setB {c : UInt8} {o : Nat} (h : bOff c = some o) (a : ActD) (x : List UInt8) (v dv fv : Value) : ∃ dv' fv', (actV a dv fv).set o v = actV (setB c x a) dv' fv' ∧ ∀ (Q : Value → List UInt8 → Prop), Q dv a.data → Q fv a.fdata → Q v x → Q dv' (setB c x a).data ∧ Q fv' (setB c x a).fdata := by
  rcases bOff_cases h with ⟨e, rfl⟩ | ⟨e, rfl⟩
  · exact ⟨v, fv, by unfold setB; rw [e]; rfl, fun Q h1 h2 h3 => by unfold setB; rw [e]; exact ⟨h3, h2⟩⟩
  · exact ⟨dv, v, by unfold setB; rw [e]; rfl, fun Q h1 h2 h3 => by unfold setB; rw [e]; exact ⟨h1, h3⟩⟩
theorem off_lt {c : UInt8} {o : Nat} (h : tOff c = some o ∨ bOff c = some o ∨ nOff c = some o) : o < 13 := by
  rcases h with h | h | h
  · have := tOff_cases h; omega
  · have := bOff_cases h; omega
  · have := nOff_cases h; omega
/-! ### the faults' words, one by one -/
theorem kd_at {x : Int} {l : List UInt8} (h : ∀ zd, KD.atKey (.int .i64 x) zd = .lit (.string l)) : (x, l) ∈ KT := by
  have h1 := h .nil
  unfold KD DataW.atKey at h1
  simp only [KT, List.map_cons, List.map_nil, List.find?_cons, Lit.sameKey] at h1
  by_cases h2 : 1 = x
  · subst h2
    simp [wordD] at h1
    rw [← h1]; simp [KT]
  by_cases h3 : 2 = x
  · subst h3
    simp [wordD] at h1
    rw [← h1]; simp [KT]
  by_cases h4 : 3 = x
  · subst h4
    simp [wordD] at h1
    rw [← h1]; simp [KT]
  by_cases h5 : 4 = x
  · subst h5
    simp [wordD] at h1
    rw [← h1]; simp [KT]
  by_cases h6 : 5 = x
  · subst h6
    simp [wordD] at h1
    rw [← h1]; simp [KT]
  by_cases h7 : 6 = x
  · subst h7
    simp [wordD] at h1
    rw [← h1]; simp [KT]
  by_cases h8 : 7 = x
  · subst h8
    simp [wordD] at h1
    rw [← h1]; simp [KT]
  simp [h2, h3, h4, h5, h6, h7, h8] at h1
theorem kt_one : ∀ p ∈ KT, ∀ q ∈ KT, p.2 = q.2 → p.1 = q.1 := by decide +kernel
theorem grown_of_fr {b : Nat} {w w' : World} (h : Fr [b] w w') : w.grownBy w' (some b) := ⟨h.os, h.tape, h.output, h.size, fun k hk hn => h.block k hk (by simpa using fun e => hn (by rw [e]))⟩
def KSt (x : List UInt8) (fk0 : Int) (left : Lit → Bool) (fk : Int) : Prop := (∀ p ∈ KT, left (.int .i64 p.1) = false → p.2 = x → fk = p.1) ∧ (fk = fk0 ∨ ∃ p ∈ KT, p.2 = x ∧ fk = p.1)
theorem KSt.start (x : List UInt8) (fk0 : Int) : KSt x fk0 (Maps.has KD) fk0 := by
  refine ⟨fun p hp h _ => ?_, .inl rfl⟩
  exfalso
  have : ∀ p ∈ KT, Maps.has KD (.int .i64 p.1) = true := by decide +kernel
  rw [this p hp] at h
  cases h
theorem KSt.no {x : List UInt8} {fk0 : Int} {left : Lit → Bool} {fk k : Int} {l : List UInt8} (h : KSt x fk0 left fk) (hk : (k, l) ∈ KT) (hx : l ≠ x) : KSt x fk0 (fun z => left z && !z.sameKey (.int .i64 k)) fk := by
  refine ⟨fun p hp hl e => ?_, h.2⟩
  refine h.1 p hp ?_ e
  by_cases hpk : p.1 = k
  · exfalso
    have hp2 : ∀ p ∈ KT, ∀ q ∈ KT, p.1 = q.1 → p.2 = q.2 := by decide +kernel
    exact hx ((hp2 _ hk _ hp hpk.symm).trans e)
  · have : (Lit.int .i64 p.1).sameKey (.int .i64 k) = false := by simp [Lit.sameKey, hpk]
    simpa [this] using hl
theorem KSt.yes {x : List UInt8} {fk0 : Int} {left : Lit → Bool} {k : Int} {l : List UInt8} (hk : (k, l) ∈ KT) (hx : l = x) : KSt x fk0 (fun z => left z && !z.sameKey (.int .i64 k)) k :=
  ⟨fun p hp _ e => kt_one _ hk _ hp (by rw [hx, e]), .inr ⟨_, hk, hx, rfl⟩⟩
theorem KSt.done {x : List UInt8} {fk0 : Int} {left : Lit → Bool} {fk : Int} (h : KSt x fk0 left fk) (hl : ∀ kl, left kl = false) : fk = newK fk0 x := by
  unfold newK
  cases hf : KT.find? (fun p => decide (p.2 = x)) with
  | some p =>
    have h1 := List.mem_of_find?_eq_some hf
    have h2 := List.find?_some hf
    exact h.1 p h1 (hl _) (of_decide_eq_true h2)
  | none =>
    rcases h.2 with e | ⟨p, hp, e, _⟩
    · exact e
    · have := List.find?_eq_none.1 hf p hp
      simp [e] at this
theorem intInv1 : ∀ key kl, keyOf Tryz.prog 3 key = some kl → ∃ x, key = Value.int .i64 x := fun _ _ h => by
  obtain ⟨x, rfl, _⟩ := Maps.keyOf_int_inv Tryz.underlying3 h
  exact ⟨x, rfl⟩
set_option maxRecDepth 100000 in
theorem strInv0 {v : Value} {z : DataW Unit × List MemPlace} (h : plainElem Tryz.prog 9 v = some z) : ∃ s : ByteArray, v = .string s ∧ z = (.lit (.string (toL s)), []) := by
  unfold plainElem at h
  rw [Tryz.underlying9] at h
  cases v <;> simp at h
  exact ⟨_, rfl, h.2.symm⟩
theorem strInv1 : ∀ v (z : DataW Unit × List MemPlace), plainElem Tryz.prog 9 v = some z → ∃ c, v = Value.string c := fun _ _ h => by
  obtain ⟨s, rfl, _⟩ := strInv0 h
  exact ⟨s, rfl⟩
def KRel (x5 : World) (b rr mb : Nat) (a : ActD) (dv fv : Value) (x : List UInt8) (wr : World) : Prop := ∃ left cnt fk, wr.ranges Tryz.prog 3 (plainElem Tryz.prog 9) mb rr 7 KD left cnt ∧ KSt x a.fk left fk ∧ Fr [b, rr] x5 wr ∧ wr.heap[b]? = some (.cells (actV { a with fk := fk } dv fv).toArray 57 (0, 0))
end Go.Proofs.YtlljjddgbilipaaGreatDoor
