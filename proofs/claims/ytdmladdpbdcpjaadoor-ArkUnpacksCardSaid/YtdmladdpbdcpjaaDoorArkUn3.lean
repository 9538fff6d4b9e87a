/-
  Unpack of the package: plain, and its loop's relation. (Printed by wip/abexp.py.)
-/
import Derived.Test.YtdmladdpbdcpjaaDoorArkUn2
import Derived.Test.YtdmladdpbdcpjaaDoorArkSt7
import Derived.Test.YtdmladdpbdcpjaaDoorArkPkA
import Derived.Test.YtdmladdpbdcpjaaDoorArkAbs
namespace Go.Proofs.YtdmladdpbdcpjaaDoor
open Go.RowKit

set_option linter.unusedSimpArgs false

attribute [local go_sem] lt1 lt2 lt3 lt4 lt5 lt6

/-- the first error of an archive's heads -/
def checkH : List (List UInt8) → List (Fl × Nat) → Nat
  | _, [] => 0
  | seen, e :: r => if nameErr seen (toL e.1.1) ≠ 0 then nameErr seen (toL e.1.1) else if crcOf e.1.2 ≠ e.2 then 16 else checkH (seen ++ [lowN (toL e.1.1)]) r
def filesH (es : List (Fl × Nat)) : List Fl := es.map (·.1)
def unErr (b : List UInt8) : Nat :=
  if 1048576 < b.length then 13 else match readH b with
  | none => 17
  | some es => if 100 < es.length then 14 else if checkH [] es ≠ 0 then checkH [] es else if packB (byName (filesH es)) = b then 0 else 15
def unFiles (b : List UInt8) : List Fl := if unErr b = 0 then (match readH b with
  | none => []
  | some es => byName (filesH es)) else []
theorem checkH_zero : ∀ (es : List (Fl × Nat)) (seen : List (List UInt8)), checkH seen es = 0 → namesErr seen (namesOf (filesH es)) = 0 ∧ ∀ e ∈ es, crcOf e.1.2 = e.2
  | [], _, _ => ⟨rfl, by simp⟩
  | e :: r, seen, h => by
    unfold checkH at h
    split at h
    · rename_i h1; exact absurd h h1
    · rename_i h1
      split at h
      · cases h
      · rename_i h2
        obtain ⟨i1, i2⟩ := checkH_zero r _ h
        refine ⟨?_, fun x hx => ?_⟩
        · show namesErr seen (toL e.1.1 :: namesOf (filesH r)) = 0
          rw [namesErr, if_pos (by simpa using h1)]
          exact i1
        · rcases List.mem_cons.1 hx with rfl | hx
          · simpa using h2
          · exact i2 x hx
theorem names_apart {l : List Fl} (h : namesErr [] (namesOf l) = 0) : ∀ a ∈ l, ∀ b ∈ l, a.1 = b.1 → a = b := by
  obtain ⟨_, hp⟩ := (namesErr_zero _ _).1 h
  unfold namesOf at hp
  rw [List.map_map, List.pairwise_map] at hp
  intro a ha b hb hab
  obtain ⟨i, hi, rfl⟩ := List.getElem_of_mem ha
  obtain ⟨j, hj, rfl⟩ := List.getElem_of_mem hb
  have hg := List.pairwise_iff_getElem.1 hp
  rcases Nat.lt_trichotomy i j with hij | rfl | hij
  · exact absurd (by simp only [Function.comp]; rw [hab]) (hg i j hi hj hij)
  · rfl
  · exact absurd (by simp only [Function.comp]; rw [hab]) (hg j i hj hi hij)
theorem headN_le (r : List UInt8) (a k : Nat) : headN r a k < 256 ^ k := by
  unfold headN
  refine Nat.lt_of_lt_of_le (numOf_lt _) (Nat.pow_le_pow_right (by omega) ?_)
  rw [List.length_take]; omega
theorem readH_bound : ∀ (n : Nat) (b : List UInt8) (es : List (Fl × Nat)), b.length ≤ n → readH b = some es → es.length ≤ b.length ∧ ∀ e ∈ es, e.1.1.size ≤ 65536 ∧ e.1.2.length ≤ b.length
  | n, b, es, hn, h => by
    rw [readH] at h
    split at h
    · split at h
      · cases h
      · rename_i hp hl
        have h30 : 30 ≤ headL b := by unfold headL; omega
        match n, hn with
        | 0, hn => omega
        | n + 1, hn =>
          cases hr : readH (b.drop (headL b)) with
          | none => rw [hr] at h; cases h
          | some es' =>
            rw [hr] at h
            simp only [Option.map_some, Option.some.injEq] at h
            obtain ⟨i1, i2⟩ := readH_bound n _ es' (by rw [List.length_drop]; omega) hr
            rw [List.length_drop] at i1 i2
            subst h
            refine ⟨by simp; omega, fun e he => ?_⟩
            rcases List.mem_cons.1 he with rfl | he
            · have := headN_le b 26 2
              constructor
              · show ((b.drop 30).take (headN b 26 2)).toArray.size ≤ _
                simp
                omega
              · show ((b.drop (30 + headN b 26 2)).take (headN b 18 4)).length ≤ _
                simp
                omega
            · have := i2 e he
              exact ⟨this.1, by omega⟩
    · cases h
      exact ⟨by simp, by simp⟩
/-- a file's cells, its bytes in memory of their own from base on -/
def CFm (w : World) (base : Nat) (c : List Value) (p : Fl) : Prop :=
  ∃ g, c = [.string p.1, .slice (some ⟨g, 0, none⟩) p.2.length p.2.length] ∧ base ≤ g ∧ p.2.length ≤ 1048576 ∧ w.heap[g]? = some (.cells (u8s p.2).toArray 5 (0, 0))
theorem CFm.cfl {w : World} {base : Nat} {c : List Value} {p : Fl} (h : CFm w base c p) : CFl w c p := by
  obtain ⟨g, rfl, _, h2, h3⟩ := h
  exact ⟨_, _, rfl, Bs.of_block h3 (Nat.le_refl _) (by unfold maxLen; omega)⟩
/-- every block of bytes is as it was -/
def Bytes8 (w w' : World) : Prop := ∀ (k : Nat) (cur : Array Value), w.heap[k]? = some (.cells cur 5 (0, 0)) → w'.heap[k]? = some (.cells cur 5 (0, 0))
theorem Bytes8.of_below {w w' : World} (h : Below w.heap.size w w') : Bytes8 w w' := fun k cur hk => (h.block k (lt_of_heap hk)).trans hk
theorem Bytes8.trans {a b c : World} (h : Bytes8 a b) (k : Bytes8 b c) : Bytes8 a c := fun i cur hi => k i cur (h i cur hi)
theorem Bytes8.of_fr {w w' : World} {g : Nat} (h : Fr [g] w w') (hm : ∃ es c, w.heap[g]? = some (.map es c)) : Bytes8 w w' := fun k cur hk => by
  refine (h.block k (lt_of_heap hk) fun hh => ?_).trans hk
  obtain ⟨es, c, he⟩ := hm
  rw [List.mem_singleton.1 hh, he] at hk
  cases hk
theorem Bytes8.of_grown {w w' : World} {base : Nat} {v : Value} {n k : Nat} {xs : List Value} (h : w.grownBy w' v.ownBlock) (ho : w.ownsRow base 46 k v n xs) : Bytes8 w w' := fun i cur hi => by
  refine (h.block _ (lt_of_heap hi) fun e => ?_).trans hi
  obtain ⟨_, cur', hcur⟩ := own_blk ho _ e.symm
  rw [hi] at hcur
  simp at hcur
theorem CFm.keep {w w' : World} {base : Nat} {c : List Value} {p : Fl} (h : CFm w base c p) (hb : Bytes8 w w') : CFm w' base c p := by
  obtain ⟨g, h1, h2, h3, h4⟩ := h
  exact ⟨g, h1, h2, h3, hb _ _ h4⟩
theorem CFm.base {w : World} {base base' : Nat} {c : List Value} {p : Fl} (h : CFm w base c p) (hb : base' ≤ base) : CFm w base' c p := by
  obtain ⟨g, h1, h2, h3⟩ := h
  exact ⟨g, h1, by omega, h3⟩
/-- a made row of files whose bytes are in memory of their own -/
def FlM (w : World) (base : Nat) (v : Value) (l : List Fl) : Prop := ∃ cs, All2 (CFm w base) cs l ∧ w.ownsRow base 46 2 v l.length cs.flatten
theorem FlM.own {w : World} {base : Nat} {v : Value} {l : List Fl} (h : FlM w base v l) : FlOwn w base v l := by
  obtain ⟨cs, h1, h2⟩ := h
  exact ⟨cs, h1.mono fun _ _ h => h.cfl, h2⟩
theorem FlM.nil (w : World) (base : Nat) : FlM w base (.slice none 0 0) [] := ⟨[], trivial, World.ownsRow_nil _ _ _ _⟩
def noEn : Fl × Nat := (noFl, 0)
theorem EnOwn.at_ {w0 w : World} {base : Nat} {v : Value} {es : List (Fl × Nat)} (h : EnOwn w0 w base v es) {i : Nat} (hi : i < es.length) :
    ∃ g c Ai ci, v = .slice (some ⟨g, 0, none⟩) es.length c ∧ w.cell? ⟨g, i * 3, none⟩ = some (.string (es.getD i noEn).1.1) ∧ w.cell? ⟨g, i * 3 + 1, none⟩ = some (.slice Ai (es.getD i noEn).1.2.length ci) ∧ w.cell? ⟨g, i * 3 + 2, none⟩ = some (.int .i64 ((es.getD i noEn).2 : Nat)) ∧ Bs w0 Ai ci (es.getD i noEn).1.2 := by
  obtain ⟨cs, h1, h2⟩ := h
  have h3 : ∀ c ∈ cs, c.length = 3 := h1.forall_left fun c p hh => hh.len
  obtain ⟨A, c, rfl, hn, hA, _, _⟩ := own_form h2
  have hgi : es[i]? = some (es.getD i noEn) := by simp [List.getD_eq_getElem?_getD, hi]
  obtain ⟨ce, hc1, Ai, ci, hc2, hbs⟩ := h1.at_ hgi
  cases A with
  | none => have := (hn rfl).1; omega
  | some a =>
    obtain ⟨g, rfl⟩ := hA a rfl
    have e : ∀ j, j < 3 → ∀ u, ce[j]? = some u → w.cell? ⟨g, i * 3 + j, none⟩ = some u := fun j hj u hu => own_cell h2 ((flat_at h3 hc1 hj).trans hu)
    rw [hc2] at e
    exact ⟨g, c, Ai, ci, rfl, e 0 (by omega) _ rfl, e 1 (by omega) _ rfl, e 2 (by omega) _ rfl, hbs⟩
def lowsH (es : List (Fl × Nat)) : List (List UInt8) := es.map fun e => lowN (toL e.1.1)
def UnRel (w W : World) (es : List (Fl × Nat)) (g : Nat) (fv iv : Value) (wr : World) : Prop :=
  ∃ i cs, i ≤ es.length ∧ iv = .int .i64 (i : Nat) ∧ checkH [] es = checkH (lowsH (es.take i)) (es.drop i) ∧ Seen wr g (lowsH (es.take i)) ∧ All2 (CFm wr W.heap.size) cs (filesH (es.take i)) ∧ wr.ownsRow W.heap.size 46 2 fv i cs.flatten ∧ Below W.heap.size W wr
def UnPost (w : World) (b : List UInt8) (e : Ending) (w' : World) : Prop :=
  ∃ v, e = .returned (.tuple #[v, .int .i64 (unErr b : Nat)]) ∧ FlM w' w.heap.size v (unFiles b) ∧ Below w.heap.size w w'
theorem un_fails {w w' : World} {b : List UInt8} {n : Nat} (h : unErr b = n) (hn : n ≠ 0) (hb : Below w.heap.size w w') : UnPost w b (.returned (.tuple #[.slice none 0 0, .int .i64 (n : Nat)])) w' := by
  refine ⟨_, by rw [h], ?_, hb⟩
  unfold unFiles
  rw [if_neg (by rw [h]; exact hn)]
  exact FlM.nil _ _
theorem checkH_cons {seen : List (List UInt8)} {e : Fl × Nat} {r : List (Fl × Nat)} : checkH seen (e :: r) = if nameErr seen (toL e.1.1) ≠ 0 then nameErr seen (toL e.1.1) else if crcOf e.1.2 ≠ e.2 then 16 else checkH (seen ++ [lowN (toL e.1.1)]) r := rfl
theorem drop_getE {es : List (Fl × Nat)} {i : Nat} (h : i < es.length) : es.drop i = es.getD i noEn :: es.drop (i + 1) := by
  rw [List.drop_eq_getElem_cons h]
  simp [List.getD_eq_getElem?_getD, h]
theorem take_getE {es : List (Fl × Nat)} {i : Nat} (h : i < es.length) : es.take (i + 1) = es.take i ++ [es.getD i noEn] := by
  rw [List.take_succ_eq_append_getElem h]
  simp [List.getD_eq_getElem?_getD, h]
end Go.Proofs.YtdmladdpbdcpjaaDoor
