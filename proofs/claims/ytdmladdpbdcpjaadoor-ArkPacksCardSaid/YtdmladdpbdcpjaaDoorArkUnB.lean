/-
  Unpack of the package: plain, and its loop's relation. (Printed by wip/abexp.py.)
  Unpack of the package. (Printed by wip/abexp.py.)
-/
import Derived.Test.YtdmladdpbdcpjaaDoorArkUn2
import Derived.Test.YtdmladdpbdcpjaaDoorArkStB
import Derived.Test.YtdmladdpbdcpjaaDoorArkPkA
import Derived.Test.YtdmladdpbdcpjaaDoorArkAbs
namespace Go.Proofs.YtdmladdpbdcpjaaDoor
open Go.RowKit

set_option linter.unusedSimpArgs false

attribute [local go_sem] lt1 lt2 lt3 lt4 lt5 lt6

/-- the first error of an archive's heads -/
def checkH : List (List UInt8) → List (Fl × Nat) → Nat
  | _, [] => 0
  | seen, e :: r => if nameErr seen (toL e.1.1) ≠ 0 then nameErr seen (toL e.1.1) else if crcOf e.1.2 ≠ e.2 then 16 else checkH (seen ++ [lowN (toL e.1.1)]) r
def filesH (es : List (Fl × Nat)) : List Fl := es.map (·.1)
def unErr (b : List UInt8) : Nat :=
  if 1048576 < b.length then 13 else match readH b with
  | none => 17
  | some es => if 100 < es.length then 14 else if checkH [] es ≠ 0 then checkH [] es else if packB (byName (filesH es)) = b then 0 else 15
def unFiles (b : List UInt8) : List Fl := if unErr b = 0 then (match readH b with
  | none => []
  | some es => byName (filesH es)) else []
theorem checkH_zero : ∀ (es : List (Fl × Nat)) (seen : List (List UInt8)), checkH seen es = 0 → namesErr seen (namesOf (filesH es)) = 0 ∧ ∀ e ∈ es, crcOf e.1.2 = e.2
  | [], _, _ => ⟨rfl, by simp⟩
  | e :: r, seen, h => by
    unfold checkH at h
    split at h
    · rename_i h1; exact absurd h h1
    · rename_i h1
      split at h
      · cases h
      · rename_i h2
        obtain ⟨i1, i2⟩ := checkH_zero r _ h
        refine ⟨?_, fun x hx => ?_⟩
        · show namesErr seen (toL e.1.1 :: namesOf (filesH r)) = 0
          rw [namesErr, if_pos (by simpa using h1)]
          exact i1
        · rcases List.mem_cons.1 hx with rfl | hx
          · simpa using h2
          · exact i2 x hx
theorem names_apart {l : List Fl} (h : namesErr [] (namesOf l) = 0) : ∀ a ∈ l, ∀ b ∈ l, a.1 = b.1 → a = b := by
  obtain ⟨_, hp⟩ := (namesErr_zero _ _).1 h
  unfold namesOf at hp
  rw [List.map_map, List.pairwise_map] at hp
  intro a ha b hb hab
  obtain ⟨i, hi, rfl⟩ := List.getElem_of_mem ha
  obtain ⟨j, hj, rfl⟩ := List.getElem_of_mem hb
  have hg := List.pairwise_iff_getElem.1 hp
  rcases Nat.lt_trichotomy i j with hij | rfl | hij
  · exact absurd (by simp only [Function.comp]; rw [hab]) (hg i j hi hj hij)
  · rfl
  · exact absurd (by simp only [Function.comp]; rw [hab]) (hg j i hj hi hij)
theorem headN_le (r : List UInt8) (a k : Nat) : headN r a k < 256 ^ k := by
  unfold headN
  refine Nat.lt_of_lt_of_le (numOf_lt _) (Nat.pow_le_pow_right (by omega) ?_)
  rw [List.length_take]; omega
theorem readH_bound : ∀ (n : Nat) (b : List UInt8) (es : List (Fl × Nat)), b.length ≤ n → readH b = some es → es.length ≤ b.length ∧ ∀ e ∈ es, e.1.1.size ≤ 65536 ∧ e.1.2.length ≤ b.length
  | n, b, es, hn, h => by
    rw [readH] at h
    split at h
    · split at h
      · cases h
      · rename_i hp hl
        have h30 : 30 ≤ headL b := by unfold headL; omega
        match n, hn with
        | 0, hn => omega
        | n + 1, hn =>
          cases hr : readH (b.drop (headL b)) with
          | none => rw [hr] at h; cases h
          | some es' =>
            rw [hr] at h
            simp only [Option.map_some, Option.some.injEq] at h
            obtain ⟨i1, i2⟩ := readH_bound n _ es' (by rw [List.length_drop]; omega) hr
            rw [List.length_drop] at i1 i2
            subst h
            refine ⟨by simp; omega, fun e he => ?_⟩
            rcases List.mem_cons.1 he with rfl | he
            · have := headN_le b 26 2
              constructor
              · show ((b.drop 30).take (headN b 26 2)).toArray.size ≤ _
                simp
                omega
              · show ((b.drop (30 + headN b 26 2)).take (headN b 18 4)).length ≤ _
                simp
                omega
            · have := i2 e he
              exact ⟨this.1, by omega⟩
    · cases h
      exact ⟨by simp, by simp⟩
/-- a file's cells, its bytes in memory of their own from base on -/
def CFm (w : World) (base : Nat) (c : List Value) (p : Fl) : Prop :=
  ∃ g, c = [.string p.1, .slice (some ⟨g, 0, none⟩) p.2.length p.2.length] ∧ base ≤ g ∧ p.2.length ≤ 1048576 ∧ w.heap[g]? = some (.cells (u8s p.2).toArray 5 (0, 0))
theorem CFm.cfl {w : World} {base : Nat} {c : List Value} {p : Fl} (h : CFm w base c p) : CFl w c p := by
  obtain ⟨g, rfl, _, h2, h3⟩ := h
  exact ⟨_, _, rfl, Bs.of_block h3 (Nat.le_refl _) (by unfold maxLen; omega)⟩
/-- every block of bytes is as it was -/
def Bytes8 (w w' : World) : Prop := ∀ (k : Nat) (cur : Array Value), w.heap[k]? = some (.cells cur 5 (0, 0)) → w'.heap[k]? = some (.cells cur 5 (0, 0))
theorem Bytes8.of_below {w w' : World} (h : Below w.heap.size w w') : Bytes8 w w' := fun k cur hk => (h.block k (lt_of_heap hk)).trans hk
theorem Bytes8.trans {a b c : World} (h : Bytes8 a b) (k : Bytes8 b c) : Bytes8 a c := fun i cur hi => k i cur (h i cur hi)
theorem Bytes8.of_fr {w w' : World} {g : Nat} (h : Fr [g] w w') (hm : ∃ es c, w.heap[g]? = some (.map es c)) : Bytes8 w w' := fun k cur hk => by
  refine (h.block k (lt_of_heap hk) fun hh => ?_).trans hk
  obtain ⟨es, c, he⟩ := hm
  rw [List.mem_singleton.1 hh, he] at hk
  cases hk
theorem Bytes8.of_grown {w w' : World} {base : Nat} {v : Value} {n k : Nat} {xs : List Value} (h : w.grownBy w' v.ownBlock) (ho : w.ownsRow base 46 k v n xs) : Bytes8 w w' := fun i cur hi => by
  refine (h.block _ (lt_of_heap hi) fun e => ?_).trans hi
  obtain ⟨_, cur', hcur⟩ := own_blk ho _ e.symm
  rw [hi] at hcur
  simp at hcur
theorem CFm.keep {w w' : World} {base : Nat} {c : List Value} {p : Fl} (h : CFm w base c p) (hb : Bytes8 w w') : CFm w' base c p := by
  obtain ⟨g, h1, h2, h3, h4⟩ := h
  exact ⟨g, h1, h2, h3, hb _ _ h4⟩
theorem CFm.base {w : World} {base base' : Nat} {c : List Value} {p : Fl} (h : CFm w base c p) (hb : base' ≤ base) : CFm w base' c p := by
  obtain ⟨g, h1, h2, h3⟩ := h
  exact ⟨g, h1, by omega, h3⟩
/-- a made row of files whose bytes are in memory of their own -/
def FlM (w : World) (base : Nat) (v : Value) (l : List Fl) : Prop := ∃ cs, All2 (CFm w base) cs l ∧ w.ownsRow base 46 2 v l.length cs.flatten
theorem FlM.own {w : World} {base : Nat} {v : Value} {l : List Fl} (h : FlM w base v l) : FlOwn w base v l := by
  obtain ⟨cs, h1, h2⟩ := h
  exact ⟨cs, h1.mono fun _ _ h => h.cfl, h2⟩
theorem FlM.nil (w : World) (base : Nat) : FlM w base (.slice none 0 0) [] := ⟨[], trivial, World.ownsRow_nil _ _ _ _⟩
def noEn : Fl × Nat := (noFl, 0)
theorem EnOwn.at_ {w0 w : World} {base : Nat} {v : Value} {es : List (Fl × Nat)} (h : EnOwn w0 w base v es) {i : Nat} (hi : i < es.length) :
    ∃ g c Ai ci, v = .slice (some ⟨g, 0, none⟩) es.length c ∧ w.cell? ⟨g, i * 3, none⟩ = some (.string (es.getD i noEn).1.1) ∧ w.cell? ⟨g, i * 3 + 1, none⟩ = some (.slice Ai (es.getD i noEn).1.2.length ci) ∧ w.cell? ⟨g, i * 3 + 2, none⟩ = some (.int .i64 ((es.getD i noEn).2 : Nat)) ∧ Bs w0 Ai ci (es.getD i noEn).1.2 := by
  obtain ⟨cs, h1, h2⟩ := h
  have h3 : ∀ c ∈ cs, c.length = 3 := h1.forall_left fun c p hh => hh.len
  obtain ⟨A, c, rfl, hn, hA, _, _⟩ := own_form h2
  have hgi : es[i]? = some (es.getD i noEn) := by simp [List.getD_eq_getElem?_getD, hi]
  obtain ⟨ce, hc1, Ai, ci, hc2, hbs⟩ := h1.at_ hgi
  cases A with
  | none => have := (hn rfl).1; omega
  | some a =>
    obtain ⟨g, rfl⟩ := hA a rfl
    have e : ∀ j, j < 3 → ∀ u, ce[j]? = some u → w.cell? ⟨g, i * 3 + j, none⟩ = some u := fun j hj u hu => own_cell h2 ((flat_at h3 hc1 hj).trans hu)
    rw [hc2] at e
    exact ⟨g, c, Ai, ci, rfl, e 0 (by omega) _ rfl, e 1 (by omega) _ rfl, e 2 (by omega) _ rfl, hbs⟩
def lowsH (es : List (Fl × Nat)) : List (List UInt8) := es.map fun e => lowN (toL e.1.1)
def UnRel (w W : World) (es : List (Fl × Nat)) (g : Nat) (fv iv : Value) (wr : World) : Prop :=
  ∃ i cs, i ≤ es.length ∧ iv = .int .i64 (i : Nat) ∧ checkH [] es = checkH (lowsH (es.take i)) (es.drop i) ∧ Seen wr g (lowsH (es.take i)) ∧ All2 (CFm wr W.heap.size) cs (filesH (es.take i)) ∧ wr.ownsRow W.heap.size 46 2 fv i cs.flatten ∧ Below W.heap.size W wr
def UnPost (w : World) (b : List UInt8) (e : Ending) (w' : World) : Prop :=
  ∃ v, e = .returned (.tuple #[v, .int .i64 (unErr b : Nat)]) ∧ FlM w' w.heap.size v (unFiles b) ∧ Below w.heap.size w w'
theorem un_fails {w w' : World} {b : List UInt8} {n : Nat} (h : unErr b = n) (hn : n ≠ 0) (hb : Below w.heap.size w w') : UnPost w b (.returned (.tuple #[.slice none 0 0, .int .i64 (n : Nat)])) w' := by
  refine ⟨_, by rw [h], ?_, hb⟩
  unfold unFiles
  rw [if_neg (by rw [h]; exact hn)]
  exact FlM.nil _ _
theorem checkH_cons {seen : List (List UInt8)} {e : Fl × Nat} {r : List (Fl × Nat)} : checkH seen (e :: r) = if nameErr seen (toL e.1.1) ≠ 0 then nameErr seen (toL e.1.1) else if crcOf e.1.2 ≠ e.2 then 16 else checkH (seen ++ [lowN (toL e.1.1)]) r := rfl
theorem drop_getE {es : List (Fl × Nat)} {i : Nat} (h : i < es.length) : es.drop i = es.getD i noEn :: es.drop (i + 1) := by
  rw [List.drop_eq_getElem_cons h]
  simp [List.getD_eq_getElem?_getD, h]
theorem take_getE {es : List (Fl × Nat)} {i : Nat} (h : i < es.length) : es.take (i + 1) = es.take i ++ [es.getD i noEn] := by
  rw [List.take_succ_eq_append_getElem h]
  simp [List.getD_eq_getElem?_getD, h]
end Go.Proofs.YtdmladdpbdcpjaaDoor
namespace Go.Proofs.YtdmladdpbdcpjaaDoor
open Go.RowKit

set_option linter.unusedSimpArgs false

attribute [local go_sem] lt1 lt2 lt3 lt4 lt5 lt6

/-- every block of cells is as it was -/
def BlkK (w w' : World) : Prop := ∀ (k : Nat) (cur : Array Value) (t : TypeId), w.heap[k]? = some (.cells cur t (0, 0)) → w'.heap[k]? = some (.cells cur t (0, 0))
theorem BlkK.of_below {w w' : World} (h : Below w.heap.size w w') : BlkK w w' := fun k _ _ hk => (h.block k (lt_of_heap hk)).trans hk
theorem BlkK.trans {a b c : World} (h : BlkK a b) (k : BlkK b c) : BlkK a c := fun i cur t hi => k i cur t (h i cur t hi)
theorem BlkK.of_fr {w w' : World} {g : Nat} (h : Fr [g] w w') (hm : ∃ es c, w.heap[g]? = some (.map es c)) : BlkK w w' := fun k cur t hk => by
  refine (h.block k (lt_of_heap hk) fun hh => ?_).trans hk
  obtain ⟨es, c, he⟩ := hm
  rw [List.mem_singleton.1 hh, he] at hk
  cases hk
theorem own_cells_at {w : World} {base k n cap : Nat} {t : TypeId} {A : Option Addr} {xs : List Value} (h : w.ownsRow base t k (.slice A n cap) n xs) {ad : Addr} (hA : A = some ad) {j : Nat} {u : Value} (hj : xs[j]? = some u) : w.cell? (ad.add j) = some u := by
  subst hA
  obtain ⟨A', c', he, _, h2, _⟩ := own_form h
  simp only [Value.slice.injEq] at he
  obtain ⟨he, _, rfl⟩ := he
  obtain ⟨g, rfl⟩ := h2 ad he.symm
  rw [Addr.add_lit, Nat.zero_add]
  exact own_cell h hj
theorem BlkK.bytes {w w' : World} (h : BlkK w w') : Bytes8 w w' := fun k cur hk => h k cur _ hk
set_option maxHeartbeats 4000000 in
set_option maxRecDepth 100000 in
theorem unpack_any (w : World) (b : List UInt8) (A : Option Addr) (c : Nat) (hb : Bs w A c b) (hl : b.length ≤ 140737488351232) (hm : MaxL w) :
    Calls Tryd.prog 30 #[.slice A b.length c] w (UnPost w b) := by
  have hmm := @run_makeMap Tryd.prog
  by_cases hbig : 1048576 < b.length
  · have hI : (1048576 : Int) < b.length := by omega
    have Hfin := Lib.hid (un_fails (w := w) (w' := w) (b := b) (n := 13) (by unfold unErr; rw [if_pos hbig]) (by decide) (Below.refl _ _))
    clear hb
    go_enter Tryd.func30, Tryd.ntmps30
    go_wp2_with fail
    go_ret2
    exact Hfin.out
  have hI : ¬ (1048576 : Int) < b.length := by omega
  have Hb := Lib.hid hb
  have Hm := Lib.hid hm
  have hbig' : b.length ≤ 1048576 := by omega
  clear hb hm
  go_enter Tryd.func30, Tryd.ntmps30
  go_wp2_with fail
  refine (heads_any w b A c Hb.out hbig').mono ?_
  rintro e W ⟨hBW, hpost⟩
  have HBW := Lib.hid hBW
  clear hBW
  cases hrd : readH b with
  | none =>
    rw [hrd] at hpost
    subst hpost
    have Hfin := Lib.hid (un_fails (w := w) (w' := W) (b := b) (n := 17) (by unfold unErr; rw [if_neg hbig, hrd]) (by decide) HBW.out)
    clear hrd hbig
    go_wp2_with fail
    go_ret2
    exact Hfin.out
  | some es =>
    rw [hrd] at hpost
    obtain ⟨v, rfl, hen⟩ := hpost
    obtain ⟨b1, b2⟩ := readH_bound _ b es (Nat.le_refl _) hrd
    obtain ⟨Ae, ce, rfl⟩ : ∃ Ae ce, v = .slice Ae es.length ce := by
      obtain ⟨cs, _, h⟩ := hen
      obtain ⟨A', c', h', _⟩ := own_form h
      exact ⟨A', c', h'⟩
    have Hrd := Lib.hid hrd
    have Hen := Lib.hid hen
    have B2 := Lib.hid b2
    have Hbig := Lib.hid hbig
    clear hrd hen b2 hbig
    by_cases h100 : 100 < es.length
    · have hI2 : (100 : Int) < es.length := by omega
      have Hfin := Lib.hid (un_fails (w := w) (w' := W) (b := b) (n := 14) (by unfold unErr; rw [if_neg Hbig.out, Hrd.out]; dsimp only; rw [if_pos h100]) (by decide) HBW.out)
      go_wp2_with fail
      go_ret2
      exact Hfin.out
    have hI2 : ¬ (100 : Int) < es.length := by omega
    have Hun : Hid (unErr b = if checkH [] es ≠ 0 then checkH [] es else if packB (byName (filesH es)) = b then 0 else 15) := Lib.hid (by
      unfold unErr
      rw [if_neg Hbig.out, Hrd.out]
      dsimp only
      rw [if_neg h100])
    have H0 : Hid (UnRel w W es W.heap.size (.slice none 0 0) (.int .i64 0) (W.alloc (.map #[] 0))) := Lib.hid ⟨0, [], by omega, rfl, rfl, Seen.made W, trivial, World.ownsRow_nil _ _ _ _, (Below.refl _ _).alloc (Nat.le_refl _) _⟩
    go_wp2_with fail
    clear hmm
    obtain ⟨g, hg⟩ : ∃ g, g = W.heap.size := ⟨_, rfl⟩
    rw [← hg] at H0 ⊢
    have Hg := Lib.hid hg
    clear hg
    go_loopw [6, 28] (fun fv iv wr => UnRel w W es g fv iv wr) (fun _ iv _ => es.length - (intOf iv).toNat)
    case atStart => exact H0.out
    case round =>
      clear H0
      obtain ⟨i, cs, hi, rfl, hck, hsn, hcs, hrow, hB⟩ := hrel
      have hir : (0 : Int) ≤ i := by omega
      have Hck := Lib.hid hck
      have Hsn := Lib.hid hsn
      have Hcs := Lib.hid hcs
      have HB := Lib.hid hB
      have hsz := hB.size
      obtain ⟨Af, cf, rfl, _, _, _, _⟩ := own_form hrow
      have Hrow := Lib.hid hrow
      clear hck hsn hcs hB hrow
      by_cases hlt : i < es.length
      · have hlI : (i : Int) < es.length := by omega
        obtain ⟨ge, ce', Ai, ci, hv, f1, f2, f3, hbs⟩ := Hen.out.at_ hlt
        simp only [Value.slice.injEq, true_and] at hv
        obtain ⟨rfl, rfl⟩ := hv
        have f1 := Cells.of_below HB.out _ _ f1
        have f2 := Cells.of_below HB.out _ _ f2
        have f3 := Cells.of_below HB.out _ _ f3
        have Hdr := Lib.hid (drop_getE hlt)
        have Htk := Lib.hid (take_getE hlt)
        obtain ⟨bn, bd⟩ := B2.out _ (List.mem_of_getElem? (show es[i]? = some (es.getD i noEn) by simp [List.getD_eq_getElem?_getD, hlt]))
        have Hbs := Lib.hid hbs
        clear hbs
        generalize es.getD i noEn = p at *
        obtain ⟨⟨nm, dat⟩, cr⟩ := p
        dsimp only at f1 f2 f3 bn bd
        have hS2 : Seen (wr.alloc (.cells #[.string nm, .slice Ai dat.length ci, .int .i64 (cr : Nat)] 89)) g (lowsH (es.take i)) := Hsn.out.below ((Below.refl _ _).alloc (Nat.le_refl _) _)
        have hM2 : MaxL (wr.alloc (.cells #[.string nm, .slice Ai dat.length ci, .int .i64 (cr : Nat)] 89)) := ((Hm.out.below HBW.out).below HB.out).below ((Below.refl _ _).alloc (Nat.le_refl _) _)
        have hcall := named_any _ g nm _ (by omega) hM2 hS2
        obtain ⟨n, hn⟩ : ∃ n, n = nameErr (lowsH (es.take i)) (toL nm) := ⟨_, rfl⟩
        have hnle : n ≤ 12 := by rw [hn]; rcases nameErr_le (lowsH (es.take i)) (toL nm) with h | h | h <;> omega
        unfold NamedPost at hcall
        rw [← hn] at hcall
        have Hn := Lib.hid hn
        clear hS2 hM2 hn
        go_wp2_with fail
        refine hcall.mono ?_
        rintro e w2 ⟨rfl, hfr, hse⟩
        obtain ⟨gx, hgx⟩ : ∃ gx, gx = wr.heap.size := ⟨_, rfl⟩
        have hBa : Below W.heap.size W (wr.alloc (.cells #[.string nm, .slice Ai dat.length ci, .int .i64 (cr : Nat)] 89)) := HB.out.alloc hsz _
        have hb2 : Below W.heap.size W w2 := hBa.trans (hfr.below hBa.size (by intro k hk; rw [List.mem_singleton.1 hk, Hg.out]; exact Nat.le_refl _))
        have hS2 : Seen (wr.alloc (.cells #[.string nm, .slice Ai dat.length ci, .int .i64 (cr : Nat)] 89)) g (lowsH (es.take i)) := Hsn.out.below ((Below.refl _ _).alloc (Nat.le_refl _) _)
        have hk2 : BlkK wr w2 := (BlkK.of_below ((Below.refl _ _).alloc (Nat.le_refl _) _)).trans (BlkK.of_fr hfr hS2.is_map)
        have hX : w2.heap[gx]? = some (.cells #[.string nm, .slice Ai dat.length ci, .int .i64 (cr : Nat)] 89 (0, 0)) := BlkK.of_fr hfr hS2.is_map _ _ _ (by rw [hgx]; exact heap_alloc_new _ _)
        have HX := Lib.hid hX
        have Hk2 := Lib.hid hk2
        have Hb2 := Lib.hid hb2
        have Hse := Lib.hid hse
        rw [← hgx]
        clear hcall hfr hse hgx hBa hb2 hS2 hk2 hX f1 f2 f3
        by_cases hz : n = 0
        case neg =>
          have hnb : ((n : Int) != 0) = true := by rw [bne_iff_ne]; omega
          have Hfin := Lib.hid (un_fails (w := w) (w' := w2) (b := b) (n := n) (by
            have hc : checkH [] es = n := by rw [Hck.out, Hdr.out, checkH_cons, if_pos (by rw [← Hn.out]; exact hz), Hn.out]
            rw [Hun.out, if_pos (by rw [hc]; exact hz), hc]) hz (HBW.out.trans (Hb2.out.mono HBW.out.size)))
          clear hz
          go_wp2_with fail
          go_ret2
          exact Hfin.out
        case pos =>
          subst hz
          obtain ⟨e1, _⟩ := blk_cells HX.out
          have E1 : Hid (w2.cell? ⟨gx, 0, none⟩ = some (.string nm)) := Lib.hid (e1 0)
          have E2 : Hid (w2.cell? ⟨gx, 1, none⟩ = some (.slice Ai dat.length ci)) := Lib.hid (e1 1)
          have E3 : Hid (w2.cell? ⟨gx, 2, none⟩ = some (.int .i64 (cr : Nat))) := Lib.hid (e1 2)
          have hbs2 : Bs w2 Ai ci dat := Hbs.out.keep (Cells.of_below (HBW.out.trans (Hb2.out.mono HBW.out.size)))
          have Hbs2 := Lib.hid hbs2
          have hkc := crcOf_lt dat
          obtain ⟨kc, hkcE⟩ : ∃ k, k = crcOf dat := ⟨_, rfl⟩
          have hcrc := fun w' h => crc_any w' dat Ai ci h
          rw [← hkcE] at hcrc hkc
          have HkcE := Lib.hid hkcE
          have Hcrc := Lib.hid hcrc
          clear hkcE hcrc e1 hbs2
          have hkw : IntKind.i64.wrap (kc : Int) = kc := by rw [IntKind.wrap_i64]; omega
          clear hkc
          go_wp2_with fail
          with_reducible refine g_mixx [(0, 0), (1, 0), (2, 0), (5, 0), (6, 0), (3, 2), (4, 0), (7, 0)] (fun w' => w'.cell? ⟨gx, 1, none⟩ = some (.slice Ai dat.length ci) ∧ w'.cell? ⟨gx, 2, none⟩ = some (.int .i64 (cr : Nat))) 0 _ rfl (by kernel_rfl) (by kernel_rfl) ?_ ?_
          · exact ⟨E2.out, E3.out⟩
          intro OPS HD
          simp only [mixX, nthO, consX]
          iterate 5 ((with_reducible refine x_val (v := ?_) ?_ ?_ ?_); rotate_left; (rintro _ ⟨h1, h2⟩; go_simp; first | done | rfl | (constructor <;> rfl)); exact ⟨E2.out, E3.out⟩)
          with_reducible refine x_one ?_
          refine l_call ?_ ((Hcrc.out w2.drew (Hbs2.out.keep fun _ _ h => h)).mono ?_)
          · go_simp
          rintro e w3 ⟨rfl, rfl⟩
          refine ⟨_, rfl, ?_⟩
          refine x_keep ⟨E2.out, E3.out⟩ ?_
          by_cases hcc : kc = cr
          case neg =>
            have hb3 : ((kc : Int) != (cr : Int)) = true := by rw [bne_iff_ne]; omega
            have Hfin := Lib.hid (un_fails (w := w) (w' := w2.drew) (b := b) (n := 16) (by
              have hc : checkH [] es = 16 := by rw [Hck.out, Hdr.out, checkH_cons, if_neg (by rw [← Hn.out]; decide), if_pos (by rw [← HkcE.out]; exact hcc)]
              rw [Hun.out, if_pos (by rw [hc]; decide), hc]) (by decide) (HBW.out.trans ((show Below W.heap.size W w2.drew from ⟨Hb2.out.os, Hb2.out.tape, Hb2.out.output, Hb2.out.size, Hb2.out.block⟩).mono HBW.out.size)))
            clear hcc
            iterate 2 ((with_reducible refine x_val (v := ?_) ?_ ?_ ?_); rotate_left; (rintro _ ⟨h1, h2⟩; (try simp only [hkw, hb3]); go_simp; first | done | rfl | (constructor <;> rfl)); exact ⟨E2.out, E3.out⟩)
            with_reducible refine x_end ?_
            simp only [Act.put, List.setIfInBounds_toArray, List.set_cons_zero, List.set_cons_succ]
            go_wp2_with fail
            go_ret2
            exact Hfin.out
          case pos =>
            subst hcc
            iterate 2 ((with_reducible refine x_val (v := ?_) ?_ ?_ ?_); rotate_left; (rintro _ ⟨h1, h2⟩; (try simp only [hkw]); go_simp; first | done | rfl | (constructor <;> rfl)); exact ⟨E2.out, E3.out⟩)
            with_reducible refine x_end ?_
            simp only [Act.put, List.setIfInBounds_toArray, List.set_cons_zero, List.set_cons_succ]
            clear hkw
            have hSe := Hse.out trivial
            have hnx : checkH [] es = checkH (lowsH (es.take (i + 1))) (es.drop (i + 1)) := by
              rw [Hck.out, Hdr.out, checkH_cons, if_neg (by rw [← Hn.out]; decide), if_neg (by rw [← HkcE.out]; simp), Htk.out]
              simp [lowsH]
            have hlows : lowsH (es.take (i + 1)) = lowsH (es.take i) ++ [lowN (toL nm)] := by rw [Htk.out]; simp [lowsH]
            have hfiles : filesH (es.take (i + 1)) = filesH (es.take i) ++ [(nm, dat)] := by rw [Htk.out]; simp [filesH]
            rw [← hlows] at hSe
            have HSe := Lib.hid hSe
            have Hnx := Lib.hid hnx
            have Hfiles := Lib.hid hfiles
            obtain ⟨iF, hiF, hzF, hsF, hbF⟩ := info_parts infoFile
            have hdl : dat.length ≤ 1048576 := by omega
            clear hSe hnx hlows hfiles
            go_wp2_with fail
            with_reducible refine g_mixx [(0, 0), (1, 0), (2, 0), (3, 0), (4, 0), (5, 0), (6, 0), (7, 2), (8, 0), (9, 2), (10, 3), (11, 1)] (fun w' => w'.cell? ⟨gx, 0, none⟩ = some (.string nm) ∧ w'.cell? ⟨gx, 1, none⟩ = some (.slice Ai dat.length ci)) 0 _ rfl (by kernel_rfl) (by kernel_rfl) ?_ ?_
            · exact ⟨E1.out, E2.out⟩
            intro OPS2 HD2
            simp only [mixX, nthO, consX]
            iterate 7 ((with_reducible refine x_val (v := ?_) ?_ ?_ ?_); rotate_left; (rintro _ ⟨h1, h2⟩; go_simp; first | done | rfl | (constructor <;> rfl)); exact ⟨E1.out, E2.out⟩)
            with_reducible refine x_one ?_
            refine l_call ?_ ((fresh_at dat Ai dat.length ci w2.drew.drew rfl (by omega) (Hbs2.out.keep fun _ _ h => h)).mono ?_)
            · go_simp
            rintro e w4 ⟨g4, rfl, hg4, hgz, hb4⟩
            have hb4' : Below w2.heap.size w2 w4 := ⟨hb4.os, hb4.tape, hb4.output, hb4.size, hb4.block⟩
            have hgz' : w2.heap.size ≤ g4 := hgz
            have hc4 := Cells.of_below hb4'
            have F1 := Lib.hid (hc4 _ _ E1.out)
            have F2 := Lib.hid (hc4 _ _ E2.out)
            have Hb4 := Lib.hid (Hb2.out.trans (hb4'.mono Hb2.out.size))
            have Hk4 := Lib.hid (Hk2.out.trans (BlkK.of_below hb4'))
            have Hg4 := Lib.hid (And.intro hg4 (Nat.le_trans Hb2.out.size hgz'))
            have HSe4 := Lib.hid (HSe.out.below hb4')
            clear hb4 hb4' hc4 hg4 hgz hgz' E1 E2 E3
            refine ⟨_, rfl, ?_⟩
            refine x_keep ⟨F1.out, F2.out⟩ ?_
            iterate 1 ((with_reducible refine x_val (v := ?_) ?_ ?_ ?_); rotate_left; (rintro _ ⟨h1, h2⟩; go_simp; first | done | rfl | (constructor <;> rfl)); exact ⟨F1.out, F2.out⟩)
            with_reducible refine x_one ?_
            iterate 1 (with_reducible refine l_val (v := ?_) (w' := ?_) ?_ ?_; rotate_left 2; (go_simp; first | done | rfl | (constructor <;> rfl)))
            refine x_keep ⟨Cells.alloc _ _ _ _ F1.out, Cells.alloc _ _ _ _ F2.out⟩ ?_
            have hba : Below W.heap.size W (w4.alloc (.cells #[.string nm, .slice (some ⟨g4, 0, none⟩) dat.length dat.length] 46)) := Hb4.out.alloc Hb4.out.size _
            have hrow4 : w4.ownsRow W.heap.size 46 2 (.slice Af i cf) i cs.flatten := own_keep Hrow.out fun k cur h => Hk4.out k cur _ h
            with_reducible refine x_three ?_
            refine wpList_append_own _ rfl (.tmp 48) (.tmp 57) 22 rfl W.heap.size 46 iF (.agg #[.string ⟨#[]⟩, .slice none 0 0]) 2 40 Tryd.underlying22 hiF hzF hsF hbF rfl (by omega) (.slice Af i cf) i cs.flatten ?_ (World.ownsRow.alloc hrow4 _) ⟨w4.heap.size, 0, none⟩ 1 1 [.string nm, .slice (some ⟨g4, 0, none⟩) dat.length dat.length] ?_ rfl (fun j v hv => World.news_of_block (w := w4.alloc _) (heap_alloc_new w4 _) j v hv) one_file (by unfold maxLen; omega) (by omega) (by have := Hb4.out.size; simp; omega) ?_
            · simp [Act.eval, Act.put]
            · simp [Act.eval, Act.put]
            intro v' w5 hown hgrow _
            have hb5 : Below W.heap.size W w5 := hba.grown hgrow hba.size (fun q hq => (own_blk (World.ownsRow.alloc hrow4 (.cells #[.string nm, .slice (some ⟨g4, 0, none⟩) dat.length dat.length] 46)) q hq).1)
            have hk5 : BlkK w4 w5 → True := fun _ => trivial
            have h8 : Bytes8 w4 w5 := (Bytes8.of_below ((Below.refl _ _).alloc (Nat.le_refl _) _)).trans (Bytes8.of_grown hgrow (World.ownsRow.alloc hrow4 (.cells #[.string nm, .slice (some ⟨g4, 0, none⟩) dat.length dat.length] 46)))
            have hcs5 : All2 (CFm w5 W.heap.size) (cs ++ [[Value.string nm, Value.slice (some ⟨g4, 0, none⟩) dat.length dat.length]]) (filesH (es.take (i + 1))) := by
              rw [Hfiles.out]
              exact (Hcs.out.mono fun _ _ h => (h.keep Hk4.out.bytes).keep h8).append ⟨g4, rfl, Hg4.out.2, hdl, h8 _ _ Hg4.out.1⟩
            have hsn5 : Seen w5 g (lowsH (es.take (i + 1))) := by
              have h0 : Seen (w4.alloc (.cells #[.string nm, .slice (some ⟨g4, 0, none⟩) dat.length dat.length] 46)) g (lowsH (es.take (i + 1))) := HSe4.out.below ((Below.refl _ _).alloc (Nat.le_refl _) _)
              obtain ⟨o, m, k1, k2⟩ := h0
              refine ⟨o, m, (hgrow.block g (lt_of_heap k1) fun e => ?_).trans k1, k2⟩
              obtain ⟨_, cur, hcur⟩ := own_blk (World.ownsRow.alloc hrow4 (.cells #[.string nm, .slice (some ⟨g4, 0, none⟩) dat.length dat.length] 46)) _ e.symm
              obtain ⟨_, _, rfl⟩ := k2.1.is_map
              rw [k1] at hcur
              simp at hcur
            have hrow5 : w5.ownsRow W.heap.size 46 2 v' (i + 1) (cs ++ [[Value.string nm, Value.slice (some ⟨g4, 0, none⟩) dat.length dat.length]]).flatten := by
              rw [List.flatten_append, List.flatten_singleton]
              exact hown
            have Hfin : Hid (UnRel w W es g v' (.int .i64 ((i : Int) + 1)) w5) := Lib.hid ⟨i + 1, _, by omega, by simp, Hnx.out, hsn5, hcs5, hrow5, hb5⟩
            clear hk5 h8 hcs5 hsn5 hrow5 hb5 hown hgrow hba hrow4
            refine x_last ?_
            iterate 1 ((with_reducible refine x_any (v := ?_) ?_ ?_); rotate_left; (rintro _; go_simp; first | done | rfl | (constructor <;> rfl)))
            with_reducible refine x_end ?_
            simp only [Act.put, List.setIfInBounds_toArray, List.set_cons_zero, List.set_cons_succ]
            go_wp2_with fail
            go_roundw
            case rel => exact Hfin.out
            case measure => simp [intOf]; omega
      · have hlI : ¬ (i : Int) < es.length := by omega
        obtain rfl : i = es.length := by omega
        have hck0 : checkH [] es = 0 := by rw [Hck.out, List.drop_length]; rfl
        rw [List.take_length] at Hcs
        obtain ⟨hnm, _⟩ := checkH_zero es [] hck0
        have hun2 : unErr b = if packB (byName (filesH es)) = b then 0 else 15 := by rw [Hun.out, if_neg (by rw [hck0]; simp)]
        have hfl : (filesH es).length = es.length := by simp [filesH]
        have hfo : FlOwn wr W.heap.size (.slice Af (filesH es).length cf) (filesH es) := ⟨cs, Hcs.out.mono fun _ _ h => h.cfl, by rw [hfl]; exact Hrow.out⟩
        obtain ⟨Af', cf', hfe, hfat⟩ := hfo.files
        simp only [Value.slice.injEq, true_and] at hfe
        obtain ⟨rfl, rfl⟩ := hfe
        have hris := rising_q wr Af cf es.length (filesH es) hfl.symm (CFm wr W.heap.size) (fun _ _ h => h.cfl) cs Hcs.out (fun ad had j u hu => own_cells_at Hrow.out had hu) hfat (by omega) (names_apart hnm)
        have Hris := Lib.hid hris
        have Hun2 := Lib.hid hun2
        have Hnm := Lib.hid hnm
        clear hck0 hnm hun2 hfo hfat hris
        go_wp2_with fail
        refine Hris.out.mono ?_
        rintro e w6 ⟨v6, rfl, ⟨cs6, hcs6, hrow6⟩, hb6⟩
        obtain ⟨L, hL⟩ : ∃ L, L = byName (filesH es) := ⟨_, rfl⟩
        rw [← hL] at hcs6
        have hLl : L.length = es.length := by rw [hL, byName_length, hfl]
        rw [hfl, ← hLl] at hrow6
        have hLm : ∀ p ∈ L, p.1.size ≤ 65536 ∧ p.2.length ≤ 1048576 := fun p hp => by
          rw [hL] at hp
          have h1 := (byName_perm (filesH es)).mem_iff.1 hp
          obtain ⟨x, hx, rfl⟩ := List.mem_map.1 h1
          have := B2.out x hx
          exact ⟨this.1, by omega⟩
        have hm6 : FlM w6 W.heap.size v6 L := ⟨cs6, hcs6.mono fun _ _ h => h.keep (Bytes8.of_below hb6), own_base hrow6 hsz⟩
        have hB6 : Below W.heap.size W w6 := HB.out.trans (hb6.mono hsz)
        obtain ⟨A6, c6, rfl, hat6⟩ := hm6.own.files
        have Hm6 := Lib.hid hm6
        have HB6 := Lib.hid hB6
        have HL := Lib.hid hL
        have Hat6 := Lib.hid hat6
        have HLm := Lib.hid hLm
        have HLl := Lib.hid hLl
        clear hcs6 hrow6 hb6 hL hm6 hB6 hat6 hLm Hris hLl hfl
        go_wp2_with fail
        refine (pack_any w6 A6 c6 L Hat6.out (by have := HLl.out; omega) (fun p hp => by have := (HLm.out p hp).1; omega) (fun p hp => (HLm.out p hp).2)).mono ?_
        rintro e w7 ⟨v7, rfl, hrow7, hb7⟩
        obtain ⟨A7, c7, rfl, hbs7⟩ := own_bs hrow7
        have hB7 : Below W.heap.size W w7 := HB6.out.trans (hb7.mono HB6.out.size)
        have hb07 : Below w.heap.size w w7 := HBW.out.trans (hB7.mono HBW.out.size)
        have hm7 : FlM w7 w.heap.size (.slice A6 L.length c6) L := by
          obtain ⟨cs7, k1, k2⟩ := Hm6.out
          exact ⟨cs7, k1.mono fun _ _ h => (h.keep (Bytes8.of_below hb7)).base HBW.out.size, own_base (own_keep k2 fun k cur h => (hb7.block k (lt_of_heap h)).trans h) HBW.out.size⟩
        have Hm7 := Lib.hid hm7
        have Hb07 := Lib.hid hb07
        have Hbs7 := Lib.hid hbs7
        clear hrow7 hb7 hbs7 hB7 hb07 hm7 Hm6
        go_wp2_with fail
        with_reducible refine (equal_any (packB L) b A7 A _ _ _ _ w7 rfl rfl Hbs7.out (Hb.out.keep (Cells.of_below Hb07.out))).mono ?_
        rintro e w8 ⟨rfl, rfl⟩
        by_cases heq : packB L = b
        · have hbe : (packB L == b) = true := by rw [beq_iff_eq]; exact heq
          rw [hbe]
          have Hfin : Hid (UnPost w b (.returned (.tuple #[.slice A6 L.length c6, .int .i64 0])) w8) := Lib.hid (by
            have h0 : unErr b = 0 := by rw [Hun2.out, ← HL.out, if_pos heq]
            refine ⟨_, by rw [h0]; rfl, ?_, Hb07.out⟩
            unfold unFiles
            rw [if_pos h0, Hrd.out]
            dsimp only
            rw [← HL.out]
            exact Hm7.out)
          clear heq hbe
          go_wp2_with fail
          go_ret2
          exact Hfin.out
        · have hbe : (packB L == b) = false := by rw [beq_eq_false_iff_ne]; exact heq
          rw [hbe]
          have Hfin := Lib.hid (un_fails (w := w) (w' := w8) (b := b) (n := 15) (by rw [Hun2.out, ← HL.out, if_neg heq]) (by decide) Hb07.out)
          clear heq hbe
          go_wp2_with fail
          go_ret2
          exact Hfin.out
end Go.Proofs.YtdmladdpbdcpjaaDoor
