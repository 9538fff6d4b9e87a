/-
  The reference's Unpack: what its loops hold. (Printed by wip/abexp.py.)
-/
import Derived.Test.YtdmladdpbdcpjaaDoorArkRu4
import Derived.Test.YtdmladdpbdcpjaaDoorArkUnB
import Derived.Test.YtdmladdpbdcpjaaDoorArkNamesR
namespace Go.Proofs.YtdmladdpbdcpjaaDoor
open Go.RowKit

set_option linter.unusedSimpArgs false

/-- a file's cells, its bytes in a row of their own from base on -/
def CFo (w : World) (base : Nat) (c : List Value) (p : Fl) : Prop := ∃ v, c = [.string p.1, v] ∧ OwnB w base v p.2
theorem CFo.cfl {w : World} {base : Nat} {c : List Value} {p : Fl} (h : CFo w base c p) : CFl w c p := by
  obtain ⟨v, rfl, ho⟩ := h
  obtain ⟨A, cc, rfl, hb⟩ := own_bs ho
  exact ⟨A, cc, rfl, hb⟩
theorem CFo.keep {w w' : World} {base : Nat} {c : List Value} {p : Fl} (h : CFo w base c p) (hb : Bytes8 w w') : CFo w' base c p := by
  obtain ⟨v, h1, h2⟩ := h
  exact ⟨v, h1, own_keep h2 fun g cs hc => hb g cs hc⟩
/-- a made row of files, the bytes of each in a row of their own -/
def FlO (w : World) (base : Nat) (v : Value) (l : List Fl) : Prop := ∃ cs, All2 (CFo w base) cs l ∧ w.ownsRow base 46 2 v l.length cs.flatten
theorem FlO.own {w : World} {base : Nat} {v : Value} {l : List Fl} (h : FlO w base v l) : FlOwn w base v l := by
  obtain ⟨cs, h1, h2⟩ := h
  exact ⟨cs, h1.mono fun _ _ h => h.cfl, h2⟩
theorem FlO.nil (w : World) (base : Nat) : FlO w base (.slice none 0 0) [] := ⟨[], trivial, World.ownsRow_nil _ _ _ _⟩
theorem FlO.below {w w' : World} {base : Nat} {v : Value} {l : List Fl} (h : FlO w base v l) (hb : Below w.heap.size w w') : FlO w' base v l := by
  obtain ⟨cs, h1, h2⟩ := h
  exact ⟨cs, h1.mono fun _ _ h => h.keep (Bytes8.of_below hb), own_keep h2 fun g _ hc => (hb.block g (lt_of_heap hc)).trans hc⟩
/-- the row of the sums grows: the files stay -/
theorem FlO.grown_int {w w' : World} {base : Nat} {v : Value} {l : List Fl} (h : FlO w base v l) {base' n : Nat} {s : Value} {xs : List Value} (hs : w.ownsRow base' 3 1 s n xs) (hg : w.grownBy w' s.ownBlock) : FlO w' base v l := by
  have key : ∀ (t : TypeId) (ht : t ≠ 3) (k : Nat) (cur : Array Value), w.heap[k]? = some (.cells cur t (0, 0)) → w'.heap[k]? = some (.cells cur t (0, 0)) := fun t ht k cur hk => by
    refine (hg.block k (lt_of_heap hk) fun e => ?_).trans hk
    obtain ⟨_, cur', hcur⟩ := own_blk hs _ e.symm
    rw [hk] at hcur
    simp only [Option.some.injEq, Obj.cells.injEq] at hcur
    exact ht hcur.2.1
  obtain ⟨cs, h1, h2⟩ := h
  exact ⟨cs, h1.mono fun _ _ h => h.keep (fun k cur hk => key _ (by decide) k cur hk), own_keep h2 fun g cs hc => key _ (by decide) g cs hc⟩
theorem int_grown_file {w w' : World} {base base' n n' k : Nat} {s v : Value} {xs ys : List Value} (hs : w.ownsRow base 3 1 s n xs) (hv : w.ownsRow base' 46 k v n' ys) (hg : w.grownBy w' v.ownBlock) : w'.ownsRow base 3 1 s n xs :=
  own_keep hs fun g cs hc => by
    refine (hg.block g (lt_of_heap hc) fun e => ?_).trans hc
    obtain ⟨_, cur', hcur⟩ := own_blk hv _ e.symm
    rw [hc] at hcur
    simp at hcur
theorem int_below {w w' : World} {base n : Nat} {s : Value} {xs : List Value} (hs : w.ownsRow base 3 1 s n xs) (hb : Below w.heap.size w w') : w'.ownsRow base 3 1 s n xs := own_keep hs fun g _ hc => (hb.block g (lt_of_heap hc)).trans hc
theorem FlAt.front {w : World} {A : Option Addr} {c m : Nat} {l : List Fl} (h : FlAt w A c l) (hm : m ≤ l.length) : FlAt w A c (l.take m) := by
  have hl := h.le
  refine ⟨fun hA => ?_, by rw [List.length_take]; omega, h.big, fun hn => ?_⟩
  · obtain ⟨h1, h2⟩ := h.nil hA
    subst h1
    exact ⟨by simp, h2⟩
  · rw [List.length_take] at hn
    obtain ⟨b2, o2, he, hx⟩ := h.cells (by omega)
    refine ⟨b2, o2, he, fun i p hi => hx i p ?_⟩
    obtain ⟨hlt, hget⟩ := List.getElem?_eq_some_iff.1 hi
    rw [List.length_take] at hlt
    rw [List.getElem?_take_of_lt (by omega)] at hi
    exact hi
theorem slicef_hi (A : Option Addr) (n c h : Nat) (h2 : h ≤ c) (w : World) : (Instr.slice 22 (.slice A n c) none (some (.int .i64 (h : Int))) none).run Tryd.prog w = .ok (.slice A h c) w := by
  have e : Tryd.prog.elem 22 = 46 := by kernel_rfl
  have ht : Tryd.prog.underlying 22 = some (.slice (Tryd.prog.elem 22)) := by rw [e]; exact Tryd.underlying22
  obtain ⟨i0, hi0, hz0, hz1, hz2⟩ := info_parts infoFile
  rw [run_slice_h (w := w) (ht := ht) (kh := .i64) (h0 := by omega) (h2 := by omega), e]
  simp [sizeOf, typeInfo, hi0, hz1, sliced]
  intro _
  cases A <;> simp [Addr.add]
/-- a file, its bytes in a row of their own, laid behind a made row of files -/
theorem append_file {w : World} {ops : Array Oper} {rest : List Oper} {o : Oper} {a : Act} {Q : Exit → Act → World → Prop} (hgd : o.guard = none) (s x : Operand)
    (ho : o.op = .call { callee := .builtin .append, args := #[s, x], argTypes := #[22, 22] }) (base : Nat) (lv : Value) (L : List Fl) (hs : a.eval s = lv) (hl : FlO w base lv L)
    (g : Nat) (nm : ByteArray) (v : Value) (d : List UInt8) (hx : a.eval x = .slice (some ⟨g, 0, none⟩) 1 1) (hg : w.heap[g]? = some (.cells #[.string nm, v] 46 (0, 0))) (hv : OwnB w base v d) (hL : L.length ≤ 1048576) (hbase : base ≤ w.heap.size)
    (h : ∀ lv' w', FlO w' base lv' (L ++ [(nm, d)]) → w.grownBy w' lv.ownBlock → Below base w w' → wpList Tryd.prog ops Q rest (a.put o.dst lv') w') : wpList Tryd.prog ops Q (o :: rest) a w := by
  obtain ⟨iF, hiF, hzF, hsF, hbF⟩ := info_parts infoFile
  obtain ⟨cs, h1, h2⟩ := hl
  obtain ⟨Av, cv, rfl, _, _, _, _⟩ := own_form hv
  refine wpList_append_own _ hgd s x 22 ho base 46 iF (.agg #[.string ⟨#[]⟩, .slice none 0 0]) 2 40 Tryd.underlying22 hiF hzF hsF hbF rfl (by omega) lv L.length cs.flatten hs h2 ⟨g, 0, none⟩ 1 1 [.string nm, .slice Av d.length cv] hx rfl (fun j u hu => World.news_of_block hg j u hu) one_file (by unfold maxLen; omega) (by omega) hbase (fun lv' w' k1 k2 _ => h lv' w' ⟨cs ++ [[.string nm, .slice Av d.length cv]], ?_, ?_⟩ k2 ((Below.refl base w).grown k2 hbase (fun q hq => (own_blk h2 q hq).1)))
  · have h8 : Bytes8 w w' := Bytes8.of_grown k2 h2
    exact (h1.mono fun _ _ h => h.keep h8).append ⟨_, rfl, own_keep hv fun g cs hc => h8 g cs hc⟩
  · rw [List.length_append, List.flatten_append, List.flatten_singleton]
    exact k1
/-! ### plain -/
theorem locsB_perm {a b : List Fl} (h : a.Perm b) : (locsB a).length = (locsB b).length := by
  unfold locsB
  induction h with
  | nil => rfl
  | cons x _ ih => simp only [List.flatMap_cons, List.length_append, ih]
  | swap x y l => simp only [List.flatMap_cons, List.length_append]; omega
  | trans _ _ i1 i2 => exact i1.trans i2
theorem headF_len {r : List UInt8} (h : headL r ≤ r.length) : (locB (headF r).1).length = headL r := by
  rw [locB_len]
  have e : headL r = 30 + headN r 26 2 + headN r 18 4 := rfl
  show 30 + ((r.drop 30).take (headN r 26 2)).toArray.size + ((r.drop (30 + headN r 26 2)).take (headN r 18 4)).length = _
  simp
  omega
theorem locsB_snoc (l : List Fl) (p : Fl) : (locsB (l ++ [p])).length = (locsB l).length + (locB p).length := by
  unfold locsB
  rw [List.flatMap_append, List.length_append]
  simp
theorem four_of {r : List UInt8} (h4 : 4 ≤ r.length) : r.take 4 = [80, 75, 3, 4] ↔ (r.getD 0 0 = 80 ∧ r.getD 1 0 = 75 ∧ r.getD 2 0 = 3 ∧ r.getD 3 0 = 4) := by
  match r, h4 with
  | a :: b :: c :: d :: t, _ => simp
theorem four_short {r : List UInt8} (h4 : r.length < 4) : r.take 4 ≠ [80, 75, 3, 4] := fun h => by
  have := congrArg List.length h
  rw [List.length_take] at this
  simp at this
  omega
theorem readH_take {b : List UInt8} {a : Nat} {es : List (Fl × Nat)} (h : readH b = (readH (b.drop a)).map (fun k => es ++ k)) (hp : (b.drop a).take 4 = [80, 75, 3, 4]) (hl : headL (b.drop a) ≤ (b.drop a).length) :
    readH b = (readH (b.drop (a + headL (b.drop a)))).map (fun k => (es ++ [headF (b.drop a)]) ++ k) := by
  rw [h, readH_step hp (by omega), List.drop_drop]
  cases readH (b.drop (a + headL (b.drop a))) <;> simp
/-- the first loop -/
def UrRel (w : World) (b : List UInt8) (lv sv av : Value) (wr : World) : Prop :=
  ∃ es a, a ≤ b.length ∧ av = .int .i64 (a : Nat) ∧ readH b = (readH (b.drop a)).map (fun k => es ++ k) ∧ FlO wr w.heap.size lv (filesH es) ∧ wr.ownsRow w.heap.size 3 1 sv es.length (ints (es.map (·.2))) ∧ Below w.heap.size w wr ∧ (locsB (filesH es)).length ≤ a ∧ es.length ≤ a
/-- the second loop -/
def UsRel (W : World) (es : List (Fl × Nat)) (iv : Value) (wr : World) : Prop :=
  ∃ i, i ≤ es.length ∧ iv = .int .i64 (i : Nat) ∧ checkH [] es = checkH (lowsH (es.take i)) (es.drop i) ∧ namesErr [] (namesOf (filesH (es.take i))) = 0 ∧ Below W.heap.size W wr
theorem names_lows (es : List (Fl × Nat)) : (namesOf (filesH es)).map lowN = lowsH es := by
  simp [namesOf, filesH, lowsH, Function.comp_def]
theorem names_snoc {es : List (Fl × Nat)} {i : Nat} (h : i < es.length) (h0 : namesErr [] (namesOf (filesH (es.take i))) = 0) : namesErr [] (namesOf (filesH (es.take (i + 1)))) = nameErr (lowsH (es.take i)) (toL (es.getD i noEn).1.1) := by
  have e : namesOf (filesH (es.take (i + 1))) = namesOf (filesH (es.take i)) ++ [toL (es.getD i noEn).1.1] := by rw [take_getE h]; simp [namesOf, filesH]
  rw [e, namesErr_append, if_pos h0, List.nil_append, names_lows, namesErr]
  split
  · rename_i hz; rw [hz]; rfl
  · rfl
def UnPostR (w : World) (b : List UInt8) (e : Ending) (w' : World) : Prop :=
  ∃ v, e = .returned (.tuple #[v, .int .i64 (unErr b : Nat)]) ∧ FlOwn w' w.heap.size v (unFiles b) ∧ Below w.heap.size w w'
theorem unr_fails {w w' : World} {b : List UInt8} {n : Nat} (h : unErr b = n) (hn : n ≠ 0) (hb : Below w.heap.size w w') : UnPostR w b (.returned (.tuple #[.slice none 0 0, .int .i64 (n : Nat)])) w' := by
  refine ⟨_, by rw [h], ?_, hb⟩
  unfold unFiles
  rw [if_neg (by rw [h]; exact hn)]
  exact FlOwn.nil _ _
end Go.Proofs.YtdmladdpbdcpjaaDoor
