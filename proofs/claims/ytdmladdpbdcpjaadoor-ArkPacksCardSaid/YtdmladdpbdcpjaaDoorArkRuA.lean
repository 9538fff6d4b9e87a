/-
  The reference's numbers in bytes: read, written. (Printed by wip/abexp.py.)
  The reference's put: a number laid behind bytes. (Printed by wip/abexp.py.)
  The reference's puts: numbers of two bytes laid behind bytes. (Printed by wip/abexp.py.)
  Two rows of bytes that grow by turns. (Printed by wip/abexp.py.)
-/
import Derived.Test.YtdmladdpbdcpjaaDoorArkUnB
import Derived.Maps.AppendAt
import Derived.Test.YtdmladdpbdcpjaaDoorArkPk0
namespace Go.Proofs.YtdmladdpbdcpjaaDoor
open Go.RowKit

set_option linter.unusedSimpArgs false

attribute [local go_sem] lt1 lt2 lt3 lt4 lt5 lt6

def GtRel (b : List UInt8) (a k : Nat) (nv iv : Value) (w wr : World) : Prop :=
  ∃ j : Nat, j ≤ k ∧ nv = .int .i64 (numOf ((b.drop (a + (k - j))).take j) : Nat) ∧ iv = .int .i64 ((k : Int) - 1 - j) ∧ w = wr
theorem numOf_front {b : List UInt8} {a k j : Nat} (hj : j < k) (h : a + k ≤ b.length) : numOf ((b.drop (a + (k - (j + 1)))).take (j + 1)) = (b.getD (a + (k - 1 - j)) 0).toNat + 256 * numOf ((b.drop (a + (k - j))).take j) := by
  have e : a + (k - (j + 1)) < b.length := by omega
  rw [List.drop_eq_getElem_cons e, List.take_succ_cons, numOf]
  rw [show a + (k - (j + 1)) + 1 = a + (k - j) by omega]
  simp [List.getD_eq_getElem?_getD, show a + (k - 1 - j) = a + (k - (j + 1)) by omega, e]
theorem get_any (w : World) (b : List UInt8) (A : Option Addr) (c a k n : Nat) {aI : Int} (ea : aI = a) (hn : n = b.length) (hb : Bs w A c b) (hk : k ≤ 4) (h : a + k ≤ b.length) :
    Calls Tryd.prog 64 #[.slice A n c, .int .i64 aI, .int .i64 (k : Nat)] w fun e w' => e = .returned (.int .i64 (numOf ((b.drop a).take k) : Nat)) ∧ w = w' := by
  subst ea hn
  have hbl := hb.len_le
  have Hb := Lib.hid hb
  have k0 := IntWalk.i64_in ((k : Int) - 1) (by omega)
  have H0 : Hid (GtRel b a k (.int .i64 0) (.int .i64 ((k : Int) - 1)) w w) := Lib.hid ⟨0, by omega, by simp [numOf], by simp, rfl⟩
  clear hb
  go_enter Tryd.func64, Tryd.ntmps64
  go_wp2_with fail
  go_loopw [7, 8] (fun nv iv wr => GtRel b a k nv iv w wr) (fun _ iv _ => (intOf iv + 1).toNat)
  case atStart => exact H0.out
  case round =>
    clear H0 k0
    obtain ⟨j, hj, rfl, rfl, rfl⟩ := hrel
    by_cases hlt : j < k
    · have hge : (0 : Int) ≤ (k : Int) - 1 - j := by omega
      have hge2 : (1 : Int) + j ≤ k := by omega
      have hst := numOf_front hlt h
      have hlt1 := numOf_lt ((b.drop (a + (k - j))).take j)
      have hp : 256 ^ ((b.drop (a + (k - j))).take j).length ≤ 16777216 := by
        have e1 : ((b.drop (a + (k - j))).take j).length ≤ 3 := by rw [List.length_take]; omega
        exact Nat.le_trans (Nat.pow_le_pow_right (by omega) e1) (by decide)
      obtain ⟨N, hN⟩ : ∃ N, N = numOf ((b.drop (a + (k - j))).take j) := ⟨_, rfl⟩
      rw [← hN] at hst hlt1 ⊢
      obtain ⟨bb, oo, rfl, c1⟩ := Hb.out.at_ (k := a + (k - 1 - j)) (by omega)
      have hxl := (b.getD (a + (k - 1 - j)) 0).toNat_lt
      generalize b.getD (a + (k - 1 - j)) 0 = x at *
      have k1 := IntWalk.i64_in ((N : Int) * 256) (by omega)
      have k2 := IntWalk.i64_in ((a : Int) + ((k : Int) - 1 - j)) (by omega)
      have k3 := IntWalk.i64_in ((N : Int) * 256 + x.toNat) (by omega)
      have k4 := IntWalk.i64_in ((k : Int) - 1 - j - 1) (by omega)
      have b1 : (0 : Int) ≤ (a : Int) + ((k : Int) - 1 - j) := by omega
      have b2 : (a : Int) + ((k : Int) - 1 - j) < b.length := by omega
      have t1 : ((a : Int) + ((k : Int) - 1 - j)).toNat = a + (k - 1 - j) := by omega
      have Hfin : Hid (GtRel b a k (.int .i64 ((N : Int) * 256 + x.toNat)) (.int .i64 ((k : Int) - 1 - j - 1)) w w) := Lib.hid ⟨j + 1, by omega, by rw [hst]; congr 1; omega, by congr 1; omega, rfl⟩
      clear hst hlt1 hp hN
      go_wp2_with fail
      exact ⟨Hfin.out, by simp only [intOf]; omega⟩
    · obtain rfl : j = k := by omega
      have hge : ¬ (0 : Int) ≤ (j : Int) - 1 - j := by omega
      go_wp2_with fail
      go_ret
      exact ⟨rfl, rfl⟩
end Go.Proofs.YtdmladdpbdcpjaaDoor
namespace Go.Proofs.YtdmladdpbdcpjaaDoor
open Go.RowKit

set_option linter.unusedSimpArgs false

attribute [local go_sem] lt1 lt2 lt3 lt4 lt5 lt6

abbrev OwnB (w : World) (base : Nat) (v : Value) (B : List UInt8) : Prop := w.ownsRow base 5 1 v B.length (u8s B)
/-- v has become v': no other block of w has turned, and v' lies where v lay, or in a new block -/
def Grew (w w' : World) (v v' : Value) : Prop := Fr v.ownBlock.toList w w' ∧ (v'.ownBlock = v.ownBlock ∨ ∃ g, v'.ownBlock = some g ∧ w.heap.size ≤ g)
theorem Grew.refl (w : World) (v : Value) : Grew w w v v := ⟨Fr.refl _ _, .inl rfl⟩
theorem Grew.trans {a b c : World} {x y z : Value} (h : Grew a b x y) (k : Grew b c y z) : Grew a c x z := by
  refine ⟨⟨k.1.os.trans h.1.os, k.1.tape.trans h.1.tape, k.1.output.trans h.1.output, Nat.le_trans h.1.size k.1.size, fun i hi hn => ?_⟩, ?_⟩
  · refine (k.1.block i (Nat.lt_of_lt_of_le hi h.1.size) fun hh => ?_).trans (h.1.block i hi hn)
    rcases h.2 with e | ⟨g, e, hg⟩
    · rw [e] at hh; exact hn hh
    · rw [e] at hh
      simp at hh
      omega
  · rcases k.2 with e | ⟨g, e, hg⟩
    · rw [e]; exact h.2
    · exact .inr ⟨g, e, Nat.le_trans h.1.size hg⟩
theorem Grew.below {w w' : World} {v v' : Value} {base : Nat} {B : List UInt8} (h : Grew w w' v v') (ho : OwnB w base v B) (hb : base ≤ w.heap.size) : Below base w w' :=
  h.1.below hb fun k hk => by
    cases hv : v.ownBlock with
    | none => rw [hv] at hk; simp at hk
    | some g =>
      rw [hv] at hk
      simp at hk
      subst hk
      exact (own_blk ho _ hv).1
def PuRel (w : World) (base : Nat) (v : Value) (B : List UInt8) (n k : Nat) (bv nv iv : Value) (wr : World) : Prop :=
  ∃ (i m : Nat), i ≤ k ∧ m = n / 2 ^ (8 * i) ∧ nv = .int .i64 m ∧ iv = .int .i64 i ∧ OwnB wr base bv (B ++ (leB k n).take i) ∧ Grew w wr v bv
def PuPost (w : World) (base : Nat) (v : Value) (B : List UInt8) (e : Ending) (w' : World) : Prop := ∃ x, e = .returned x ∧ OwnB w' base x B ∧ Grew w w' v x
set_option maxHeartbeats 2000000 in
theorem put_ref (w : World) (base : Nat) (v : Value) (B : List UInt8) (n k : Nat) {nI : Int} (en : nI = n) (ho : OwnB w base v B) (hB : B.length ≤ 1073741824) (hn : n ≤ 4294967296) (hk : k ≤ 8) (hb : base ≤ w.heap.size) :
    Calls Tryd.prog 78 #[v, .int .i64 nI, .int .i64 (k : Nat)] w (PuPost w base v (B ++ leB k n)) := by
  subst en
  obtain ⟨i0, hi0, hz0, hz1, hz2⟩ := info_parts infoU8
  have H0 : Hid (PuRel w base v B n k v (.int .i64 n) (.int .i64 0) w) := Lib.hid ⟨0, n, by omega, by simp, rfl, rfl, by simpa using ho, Grew.refl _ _⟩
  clear ho
  go_enter Tryd.func78, Tryd.ntmps78
  go_wp2_with fail
  go_loopw [0, 1, 7] (fun bv nv iv wr => PuRel w base v B n k bv nv iv wr) (fun _ _ iv _ => k - (intOf iv).toNat)
  case atStart => exact H0.out
  case round =>
    clear H0
    obtain ⟨i, m, hi, hm, rfl, rfl, ho, hg⟩ := hrel
    have hml : m ≤ 4294967296 := by rw [hm]; exact Nat.le_trans (Nat.div_le_self _ _) hn
    obtain ⟨Ab, cb, rfl, _, _, _, _⟩ := own_form ho
    have Hm := Lib.hid hm
    have Ho := Lib.hid ho
    have Hg := Lib.hid hg
    have hsz := hg.1.size
    clear hm ho hg
    by_cases hlt : i < k
    · have hlI : (i : Int) < k := by omega
      have Htk : Hid ((leB k n).take (i + 1) = (leB k n).take i ++ [UInt8.ofNat (n / 2 ^ (8 * i))]) := Lib.hid (leB_take hlt)
      obtain ⟨X, hX⟩ : ∃ X, X = B ++ (leB k n).take i := ⟨_, rfl⟩
      rw [← hX] at Ho Hg ⊢
      have hXl : X.length ≤ 1073741832 := by rw [hX, List.length_append, List.length_take, leB_length]; omega
      have HX := Lib.hid hX
      clear hX
      have hm8 : (m : Int) % 256 = ((UInt8.ofNat (n / 2 ^ (8 * i))).toNat : Nat) := by rw [← Hm.out, UInt8.toNat_ofNat']; omega
      have Hm8 := Lib.hid hm8
      clear hm8
      go_wp2_with (first | (at_builtin; refine wpList_append_own_at _ rfl (.tmp 13) (.tmp 16) 28 rfl base 5 i0 (.int .u8 0) 1 1 Tryd.underlying28 hi0 hz0 hz1 hz2 rfl (by omega) (.slice Ab X.length cb) X.length (u8s X) rfl (World.ownsRow.alloc Ho.out _) ⟨wr.heap.size, 0, none⟩ 1 1 [.int .u8 ((m : Int) % 256)] rfl rfl (fun j v hv => World.news_of_block (w := wr.alloc _) (heap_alloc_new wr _) j v hv) (one_cell _) (by unfold maxLen; omega) (by omega) (by simp; omega) ?_))
      intro v' w1 hown hgrow _ hat
      have hg1 : Grew wr w1 (.slice Ab X.length cb) v' := by
        refine ⟨?_, hat.imp id fun h => ⟨_, h, by simp⟩⟩
        exact (Fr.alloc _ wr _).trans (Fr.of_grown hgrow)
      have hown' : OwnB w1 base v' (B ++ (leB k n).take (i + 1)) := by
        have e : B ++ (leB k n).take (i + 1) = X ++ [UInt8.ofNat (n / 2 ^ (8 * i))] := by rw [Htk.out, HX.out, List.append_assoc]
        rw [e, OwnB, List.length_append, show u8s (X ++ [UInt8.ofNat (n / 2 ^ (8 * i))]) = u8s X ++ u8s [UInt8.ofNat (n / 2 ^ (8 * i))] by simp [u8s]]
        have h := hown
        rw [Hm8.out] at h
        exact h
      have Hfin : Hid (PuRel w base v B n k v' (.int .i64 ((m : Int) / 256)) (.int .i64 ((i : Int) + 1)) w1) := Lib.hid ⟨i + 1, m / 256, by omega, by rw [Hm.out, Nat.div_div_eq_div_mul, show 2 ^ (8 * (i + 1)) = 2 ^ (8 * i) * 256 by rw [Nat.mul_add, Nat.pow_add]], by congr 1, by simp, hown', Hg.out.trans hg1⟩
      clear hown hgrow hat hg1 hown'
      go_wp2_with fail
      go_roundw
      case rel => exact Hfin.out
      case measure => simp [intOf]; omega
    · obtain rfl : i = k := by omega
      have hlI : ¬ (i : Int) < i := by omega
      obtain ⟨X, hX⟩ : ∃ X, X = B ++ (leB i n).take i := ⟨_, rfl⟩
      rw [← hX] at Ho Hg ⊢
      have Hfin : Hid (OwnB wr base (.slice Ab X.length cb) (B ++ leB i n)) := Lib.hid (by
        have h := Ho.out
        rw [show B ++ leB i n = X by rw [hX, List.take_of_length_le (by rw [leB_length]; exact Nat.le_refl _)]]
        exact h)
      clear hX
      go_wp2_with fail
      go_ret
      exact ⟨_, rfl, Hfin.out, Hg.out⟩
end Go.Proofs.YtdmladdpbdcpjaaDoor
namespace Go.Proofs.YtdmladdpbdcpjaaDoor
open Go.RowKit

set_option linter.unusedSimpArgs false

attribute [local go_sem] lt1 lt2 lt3 lt4 lt5 lt6

def PsRel (w : World) (base gl : Nat) (v : Value) (B : List UInt8) (l : List Nat) (bv iv : Value) (wr : World) : Prop :=
  ∃ i : Nat, i ≤ l.length ∧ iv = .int .i64 i ∧ OwnB wr base bv (B ++ lesB 2 (l.take i)) ∧ Grew w wr v bv ∧ wr.heap[gl]? = some (.cells (ints l).toArray 3 (0, 0))
set_option maxHeartbeats 2000000 in
set_option maxRecDepth 100000 in
theorem puts_ref (w : World) (base gl c : Nat) (v : Value) (B : List UInt8) (l : List Nat) (n : Nat) (hn : n = l.length) (ho : OwnB w base v B) (hB : B.length ≤ 536870912) (hl : ∀ x ∈ l, x ≤ 4294967296) (hll : l.length ≤ 100) (hgl : w.heap[gl]? = some (.cells (ints l).toArray 3 (0, 0))) (hb : base ≤ w.heap.size) :
    Calls Tryd.prog 77 #[v, .slice (some ⟨gl, 0, none⟩) n c] w (PuPost w base v (B ++ lesB 2 l)) := by
  subst hn
  have Hl := Lib.hid hl
  have H0 : Hid (PsRel w base gl v B l v (.int .i64 0) w) := Lib.hid ⟨0, by omega, rfl, by simpa [lesB] using ho, Grew.refl _ _, hgl⟩
  clear ho hl hgl
  go_enter Tryd.func77, Tryd.ntmps77
  go_wp2_with fail
  go_loopw [0, 5] (fun bv iv wr => PsRel w base gl v B l bv iv wr) (fun _ iv _ => l.length - (intOf iv).toNat)
  case atStart => exact H0.out
  case round =>
    clear H0
    obtain ⟨i, hi, rfl, ho, hg, hgl⟩ := hrel
    have hir : (0 : Int) ≤ i := by omega
    obtain ⟨bv, hbv⟩ : ∃ bv, bv = u0 := ⟨_, rfl⟩
    subst hbv
    have Ho := Lib.hid ho
    have Hg := Lib.hid hg
    have Hgl := Lib.hid hgl
    have hsz := hg.1.size
    by_cases hlt : i < l.length
    · have hlI : (i : Int) < l.length := by omega
      have hc : wr.cell? ⟨gl, i, none⟩ = some (.int .i64 (l.getD i 0 : Nat)) := by
        rw [(blk_cells hgl).1 i]
        simp [ints, List.getD_eq_getElem?_getD, hlt]
      have hx := Hl.out _ (List.mem_of_getElem? (show l[i]? = some (l.getD i 0) by simp [List.getD_eq_getElem?_getD, hlt]))
      have Htk := Lib.hid (lesB_take (k := 2) hlt)
      generalize l.getD i 0 = x at *
      have hXl : (B ++ lesB 2 (l.take i)).length ≤ 1073741824 := by rw [List.length_append, lesB_length, List.length_take]; omega
      clear ho hg hgl
      go_wp2_with fail
      refine (put_ref wr base bv (B ++ lesB 2 (l.take i)) x 2 rfl Ho.out hXl hx (by omega) (by omega)).mono ?_
      rintro e w1 ⟨v1, rfl, ho1, hg1⟩
      have hgl1 : w1.heap[gl]? = some (.cells (ints l).toArray 3 (0, 0)) := by
        refine (hg1.1.block gl (lt_of_heap Hgl.out) fun hh => ?_).trans Hgl.out
        cases hv : bv.ownBlock with
        | none => rw [hv] at hh; simp at hh
        | some g =>
          rw [hv] at hh
          simp at hh
          subst hh
          obtain ⟨_, cur, hcur⟩ := own_blk Ho.out _ hv
          rw [Hgl.out] at hcur
          simp at hcur
      have Hfin : Hid (PsRel w base gl v B l v1 (.int .i64 ((i : Int) + 1)) w1) := Lib.hid ⟨i + 1, by omega, by simp, by rw [Htk.out, ← List.append_assoc]; exact ho1, Hg.out.trans hg1, hgl1⟩
      clear ho1 hg1 hgl1
      go_wp2_with fail
      go_roundw
      case rel => exact Hfin.out
      case measure => simp [intOf]; omega
    · obtain rfl : i = l.length := by omega
      have Hfin : Hid (OwnB wr base bv (B ++ lesB 2 l)) := Lib.hid (by rw [List.take_length] at ho; exact ho)
      clear ho hg hgl
      go_wp2_with fail
      go_ret
      exact ⟨_, rfl, Hfin.out, Hg.out⟩
end Go.Proofs.YtdmladdpbdcpjaaDoor
namespace Go.Proofs.YtdmladdpbdcpjaaDoor
open Go.RowKit

set_option linter.unusedSimpArgs false

attribute [local go_sem] lt1 lt2 lt3 lt4 lt5 lt6

/-- two rows that lie apart -/
def Apart (b c : Value) : Prop := ∀ g, b.ownBlock = some g → c.ownBlock ≠ some g
theorem Apart.symm {b c : Value} (h : Apart b c) : Apart c b := fun g h1 h2 => h g h2 h1
theorem own_lies {w : World} {base : Nat} {v : Value} {B : List UInt8} (h : OwnB w base v B) {g : Nat} (hg : v.ownBlock = some g) : g < w.heap.size := by
  obtain ⟨_, cur, hc⟩ := own_blk h g hg
  exact lt_of_heap hc
theorem Grew.apart {w w' : World} {b b' c : Value} {base : Nat} {C : List UInt8} (h : Grew w w' b b') (hc : OwnB w base c C) (ha : Apart b c) : Apart b' c := fun g h1 h2 => by
  rcases h.2 with e | ⟨g', e, hg⟩
  · rw [e] at h1; exact ha g h1 h2
  · rw [e] at h1
    simp at h1
    have := own_lies hc h2
    omega
theorem own_keepB {w w' : World} {base : Nat} {v : Value} {B : List UInt8} (h : OwnB w base v B) (hk : ∀ g, v.ownBlock = some g → w'.heap[g]? = w.heap[g]?) : OwnB w' base v B := by
  refine ⟨h.1, ?_⟩
  rcases h.2 with hn | ⟨g, cap, cur, rfl, hb, hg, rest⟩
  · exact .inl hn
  · exact .inr ⟨g, cap, cur, rfl, hb, (hk g rfl).trans hg, rest⟩
theorem Grew.keep {w w' : World} {b b' c : Value} {base : Nat} {C : List UInt8} (h : Grew w w' b b') (hc : OwnB w base c C) (ha : Apart b c) : OwnB w' base c C :=
  own_keepB hc fun g hg => h.1.block g (own_lies hc hg) fun hh => by
    cases hb : b.ownBlock with
    | none => rw [hb] at hh; simp at hh
    | some g' =>
      rw [hb] at hh
      simp at hh
      subst hh
      exact ha g hb hg
theorem OwnB.alloc {w : World} {base : Nat} {v : Value} {B : List UInt8} (h : OwnB w base v B) (o : Obj) : OwnB (w.alloc o) base v B := World.ownsRow.alloc h o
theorem Apart.nil : Apart (.slice none 0 0) (.slice none 0 0) := fun g h => by simp [Value.ownBlock] at h
/-! ### the appends, and where the new row lies -/
theorem Grew.of_at {w w1 : World} {v v' : Value} (hgrow : w.grownBy w1 v.ownBlock) (hat : v'.ownBlock = v.ownBlock ∨ v'.ownBlock = some w.heap.size) : Grew w w1 v v' :=
  ⟨Fr.of_grown hgrow, hat.imp id fun h => ⟨_, h, Nat.le_refl _⟩⟩
theorem Grew.alloc {w w1 : World} {v v' : Value} {o : Obj} (h : Grew (w.alloc o) w1 v v') : Grew w w1 v v' :=
  ⟨(Fr.alloc _ w o).trans h.1, h.2.imp id fun ⟨g, e, hg⟩ => ⟨g, e, Nat.le_trans (by simp) hg⟩⟩
theorem Grew.drewN {w w1 : World} {v v' : Value} {n : Nat} (h : Grew (w.drewN n) w1 v v') : Grew w w1 v v' :=
  ⟨⟨h.1.os, h.1.tape, h.1.output, h.1.size, h.1.block⟩, h.2⟩
theorem OwnB.join {w : World} {base : Nat} {v : Value} {B d : List UInt8} (h : w.ownsRow base 5 1 v (B.length + d.length) (u8s B ++ u8s d)) : OwnB w base v (B ++ d) := by
  rw [OwnB, List.length_append, show u8s (B ++ d) = u8s B ++ u8s d by simp [u8s]]
  exact h
/-- bytes laid behind a row of the call's own -/
theorem append_bs_at {w : World} {ops : Array Oper} {rest : List Oper} {o : Oper} {a : Act} {Q : Exit → Act → World → Prop} (hgd : o.guard = none) (s x : Operand)
    (ho : o.op = .call { callee := .builtin .append, args := #[s, x], argTypes := #[28, 28] }) (base : Nat) (v : Value) (B : List UInt8) (hs : a.eval s = v) (hown : OwnB w base v B)
    (A : Option Addr) (n c : Nat) (d : List UInt8) (hx : a.eval x = .slice A n c) (hn : n = d.length) (hd : Bs w A c d) (hb : B.length + d.length ≤ 140737488355328) (hbase : base ≤ w.heap.size)
    (h : ∀ v' w', OwnB w' base v' (B ++ d) → Grew w w' v v' → wpList Tryd.prog ops Q rest (a.put o.dst v') w') : wpList Tryd.prog ops Q (o :: rest) a w := by
  subst hn
  obtain ⟨i0, hi0, hz0, hz1, hz2⟩ := info_parts infoU8
  cases A with
  | none =>
    obtain ⟨h0, rfl⟩ := hd.nil rfl
    have hdn : d = [] := List.eq_nil_of_length_eq_zero h0
    subst hdn
    exact wpList_append_own_none hgd s x 28 ho base 5 i0 1 Tryd.underlying28 hi0 v B.length (u8s B) hs hown hx (h v w (by simpa using hown) (Grew.refl _ _))
  | some ad =>
    refine wpList_append_own_at _ hgd s x 28 ho base 5 i0 (.int .u8 0) 1 1 Tryd.underlying28 hi0 hz0 hz1 hz2 rfl (by omega) v B.length (u8s B) hs hown ad d.length c (u8s d) hx (by simp [u8s]) (fun j u hu => ?_) (u8s_one d) (by unfold maxLen; omega) (by omega) hbase (fun v' w' h1 h2 _ h4 => h v' w' (OwnB.join h1) (Grew.of_at h2 h4))
    have hj : j < d.length := by have := (List.getElem?_eq_some_iff.1 hu).1; simpa [u8s] using this
    obtain ⟨b, o, hbo, hcell⟩ := hd.cells (by omega)
    have : ad = ⟨b, o, none⟩ := Option.some.inj hbo
    subst this
    rw [Addr.add_lit]
    exact (hcell j (by omega)).trans hu
/-- a text laid behind a row of the call's own -/
theorem run_str_at (w : World) (base : Nat) (v : Value) (B : List UInt8) (hown : OwnB w base v B) (s : ByteArray) (hb : B.length + s.size ≤ 140737488355328) (hbase : base ≤ w.heap.size) (ty : TypeId) :
    ∃ v' w', (Builtin.append_ #[28, 9] ty #[v, .string s]).run Tryd.prog w = .ok v' w' ∧ OwnB w' base v' (B ++ toL s) ∧ Grew w w' v v' := by
  obtain ⟨i0, hi0, hz0, hz1, hz2⟩ := info_parts infoU8
  have hsc : Lib.strCells s = u8s (toL s) := by simp [Lib.strCells, u8s, toL]
  have key := fun base' ho hb' => Lib.run_append_own_string (P := Tryd.prog) w base' 28 9 ty 5 i0 Tryd.underlying28 Tryd.underlying9 hi0 hz0 hz1 hz2 v B.length (u8s B) ho s (by unfold maxLen; omega) hb hb'
  obtain ⟨v', w', hr, h2, h3, _⟩ := key base hown hbase
  have hrow : OwnB w' base v' (B ++ toL s) := OwnB.join (by rw [toL_length]; rw [hsc] at h2; exact h2)
  refine ⟨v', w', hr, hrow, Fr.of_grown h3, ?_⟩
  rcases hown.2 with ⟨rfl, h0⟩ | ⟨g, cap, cur, rfl, hbg, hg, hnc, hcm, hcs, htake⟩
  · have hB : B = [] := List.eq_nil_of_length_eq_zero h0
    subst hB
    obtain ⟨v2, w2, hr2, k2, _, _⟩ := key w.heap.size (World.ownsRow_nil _ _ _ _) (Nat.le_refl _)
    rw [hr] at hr2
    cases hr2
    cases hv : v'.ownBlock with
    | none => exact .inl rfl
    | some g => exact .inr ⟨g, rfl, (own_blk k2 _ hv).1⟩
  · by_cases hroom : B.length + s.size ≤ cap
    · have hr2 := Lib.run_append_room_string (P := Tryd.prog) w 28 9 ty 5 i0 Tryd.underlying28 Tryd.underlying9 hi0 hz1 g B.length cap cur hg s hroom (by omega)
      rw [hr] at hr2
      cases hr2
      exact .inl rfl
    · have hr2 := Lib.run_append_grow_string (P := Tryd.prog) w 28 9 ty 5 i0 (.int .u8 0) Tryd.underlying28 Tryd.underlying9 hi0 hz0 ⟨g, 0, none⟩ B.length cap (u8s B) (by rw [hz1, u8s_length, Nat.mul_one]) (hown.cells (g := g) rfl) s (by omega) (by omega) (by rw [hz2]; exact growslice_fits (by omega) (by omega))
      rw [hr] at hr2
      cases hr2
      exact .inr ⟨_, rfl, Nat.le_refl _⟩
theorem append_str_at {w : World} {ops : Array Oper} {rest : List Oper} {o : Oper} {a : Act} {Q : Exit → Act → World → Prop} (hgd : o.guard = none) (s x : Operand)
    (ho : o.op = .call { callee := .builtin .append, args := #[s, x], argTypes := #[28, 9] }) (base : Nat) (v : Value) (B : List UInt8) (hs : a.eval s = v) (hown : OwnB w base v B)
    (t : ByteArray) (hx : a.eval x = .string t) (hb : B.length + t.size ≤ 140737488355328) (hbase : base ≤ w.heap.size)
    (h : ∀ v' w', OwnB w' base v' (B ++ toL t) → Grew w w' v v' → wpList Tryd.prog ops Q rest (a.put o.dst v') w') : wpList Tryd.prog ops Q (o :: rest) a w := by
  refine wpList_plain hgd fun K hK => ?_
  obtain ⟨v', w', hr, h2, h3⟩ := run_str_at w base v B hown t hb hbase o.type
  unfold Oper.wp execOp
  simp only [ho, resolve, invoke, builtin, Sem.run_bind, Sem.run_pure, Result.andThen_ok, List.map_toArray, List.map_cons, List.map_nil, hs, hx, hr]
  exact hK _ _ (h v' w' h2 h3)
/-! ### the two rows -/
structure Ar (w : World) (B C : List UInt8) (bv cv : Value) (wr : World) : Prop where
  b : OwnB wr w.heap.size bv B
  c : OwnB wr w.heap.size cv C
  apart : Apart bv cv
  below : Below w.heap.size w wr
section
variable {w wr w' : World} {B B' C C' : List UInt8} {bv bv' cv cv' : Value}
theorem Ar.sb (h : Ar w B C bv cv wr) (ho : OwnB w' w.heap.size bv' B') (hg : Grew wr w' bv bv') : Ar w B' C bv' cv w' :=
  ⟨ho, hg.keep h.c h.apart, hg.apart h.c h.apart, h.below.trans (hg.below h.b h.below.size)⟩
theorem Ar.sc (h : Ar w B C bv cv wr) (ho : OwnB w' w.heap.size cv' C') (hg : Grew wr w' cv cv') : Ar w B C' bv cv' w' :=
  ⟨hg.keep h.b h.apart.symm, ho, (hg.apart h.b h.apart.symm).symm, h.below.trans (hg.below h.c h.below.size)⟩
theorem Ar.alloc (h : Ar w B C bv cv wr) (o : Obj) : Ar w B C bv cv (wr.alloc o) := ⟨h.b.alloc o, h.c.alloc o, h.apart, h.below.alloc h.below.size o⟩
theorem Ar.drewN (h : Ar w B C bv cv wr) (n : Nat) : Ar w B C bv cv (wr.drewN n) :=
  ⟨own_keepB h.b fun _ _ => rfl, own_keepB h.c fun _ _ => rfl, h.apart, ⟨h.below.os, h.below.tape, h.below.output, h.below.size, h.below.block⟩⟩
end
theorem censB_le (l : List Fl) : ∀ i, i ≤ l.length → (censB l i).length ≤ 16 * i + (locsB (l.take i)).length
  | 0, _ => by simp [censB]
  | i + 1, h => by
    have ih := censB_le l i (by omega)
    rw [censB_succ, List.length_append, cenB_len, locsB_take (by omega), List.length_append, locB_len]
    omega
theorem locsB_take_le (l : List Fl) (i : Nat) : (locsB (l.take i)).length ≤ (locsB l).length := by
  have h : locsB l = locsB (l.take i) ++ locsB (l.drop i) := by unfold locsB; rw [← List.flatMap_append, List.take_append_drop]
  rw [h, List.length_append]
  omega
theorem locB_le {l : List Fl} {p : Fl} (h : p ∈ l) : p.1.size + p.2.length + 30 ≤ (locsB l).length := by
  obtain ⟨a, b, rfl⟩ := List.append_of_mem h
  have : locsB (a ++ p :: b) = locsB a ++ (locB p ++ locsB b) := by simp [locsB]
  rw [this, List.length_append, List.length_append, locB_len]
  omega
def ArRel (w : World) (l : List Fl) (bv cv iv : Value) (wr : World) : Prop :=
  ∃ i : Nat, i ≤ l.length ∧ iv = .int .i64 i ∧ Ar w (locsB (l.take i)) (censB l i) bv cv wr
end Go.Proofs.YtdmladdpbdcpjaaDoor
