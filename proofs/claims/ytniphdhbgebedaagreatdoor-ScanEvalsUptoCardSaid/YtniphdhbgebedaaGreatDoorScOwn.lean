/-
  Rows of its own, the small functions of the reference (as in FsOwn, with this chapter's functions); SameTexts.
-/
import Derived.Test.YtniphdhbgebedaaGreatDoorScPl
import Derived.Lib.Strings
import Derived.Laws.AppendOwnNone
import Derived.Deep.AppendLies
import Derived.Deep.QuietTactic
import Derived.BigQuiet
import Derived.Laws.IdiomStrings
import Derived.Shelf.Bytes.SlSmallAll
namespace Go.Proofs.YtniphdhbgebedaaGreatDoor
open Go.RowKit

attribute [local go_sem] lt1 lt2 lt3 lt4 lt5 lt6

theorem row_sl {w : World} {base n : Nat} {t : TypeId} {v : Value} {xs : List Value} (h : w.ownsRow base t 1 v n xs) : ∃ A cap, v = .slice A n cap ∧ Sl w A cap n 1 xs := by
  obtain ⟨h1, ⟨rfl, h2⟩ | ⟨g, cap, cur, rfl, _, hg, hn, hc, hs, hx⟩⟩ := h
  · subst h2
    exact ⟨none, 0, rfl, h1, by simp, by simp, by simp, by simp⟩
  · refine ⟨_, cap, rfl, h1, by simp, hn, hc, fun _ => ⟨g, 0, rfl, fun j hj => ?_⟩⟩
    rw [← hx, List.getElem?_take_of_lt hj]
    simp [World.cell?, hg]
theorem own_cell {w : World} {base k g n cap : Nat} {t : TypeId} {xs : List Value} (h : w.ownsRow base t k (.slice (some ⟨g, 0, none⟩) n cap) n xs) {j : Nat} {u : Value} (hj : xs[j]? = some u) : w.cell? ⟨g, j, none⟩ = some u := by
  have := h.cells (g := g) rfl j u hj
  rwa [Addr.add_lit, Nat.zero_add] at this
theorem own_form {w : World} {base k n : Nat} {t : TypeId} {v : Value} {xs : List Value} (h : w.ownsRow base t k v n xs) : ∃ A cap, v = .slice A n cap ∧ (A = none → n = 0 ∧ cap = 0) ∧ (∀ a, A = some a → ∃ g, a = ⟨g, 0, none⟩) ∧ n ≤ cap ∧ cap ≤ maxLen := by
  obtain ⟨h1, ⟨rfl, h2⟩ | ⟨g, cap, cur, rfl, _, hg, hn, hc, hs, hx⟩⟩ := h
  · subst h2
    exact ⟨none, 0, rfl, by simp, by simp, by simp, by simp⟩
  · exact ⟨_, cap, rfl, by simp, fun a ha => ⟨g, by cases ha; rfl⟩, hn, hc⟩
theorem own_bs {w : World} {base : Nat} {v : Value} {l : List UInt8} (h : w.ownsRow base 5 1 v l.length (u8s l)) : ∃ A cap, v = .slice A l.length cap ∧ Bs w A cap l := row_sl h

theorem Fr.of_grown {w w' : World} {row : Option Nat} (h : w.grownBy w' row) : Fr row.toList w w' :=
  ⟨h.os, h.tape, h.output, h.size, fun k hk hn => h.block k hk fun e => hn (by rw [← e]; simp)⟩
theorem own_base {w : World} {base base' : Nat} {e : TypeId} {k : Nat} {v : Value} {n : Nat} {xs : List Value} (h : w.ownsRow base e k v n xs) (hb : base' ≤ base) : w.ownsRow base' e k v n xs := by
  refine ⟨h.1, ?_⟩
  rcases h.2 with hn | ⟨g, cap, cur, rfl, hg, rest⟩
  · exact .inl hn
  · exact .inr ⟨g, cap, cur, rfl, Nat.le_trans hb hg, rest⟩

theorem own_keep {w w' : World} {base : Nat} {e : TypeId} {k : Nat} {v : Value} {n : Nat} {xs : List Value} (h : w.ownsRow base e k v n xs) (hk : ∀ (g : Nat) (cs : Array Value), w.heap[g]? = some (.cells cs e (0, 0)) → w'.heap[g]? = some (.cells cs e (0, 0))) : w'.ownsRow base e k v n xs := by
  refine ⟨h.1, ?_⟩
  rcases h.2 with hn | ⟨g, cap, cur, rfl, hb, hg, rest⟩
  · exact .inl hn
  · exact .inr ⟨g, cap, cur, rfl, hb, hk g cur hg, rest⟩
theorem own_blk {w : World} {base : Nat} {e : TypeId} {k : Nat} {v : Value} {n : Nat} {xs : List Value} (h : w.ownsRow base e k v n xs) : ∀ b, v.ownBlock = some b → base ≤ b ∧ ∃ cur, w.heap[b]? = some (.cells cur e (0, 0)) := by
  intro b hb
  rcases h.2 with ⟨rfl, _⟩ | ⟨g, cap, cur, rfl, h1, hg, _⟩
  · simp [Value.ownBlock] at hb
  · simp [Value.ownBlock] at hb
    subst hb
    exact ⟨h1, cur, hg⟩
theorem num_any (n : Int) (w : World) : Calls Tryz.prog 14 #[.int .i64 n] w fun e w' => e = .returned (.int .i64 n) ∧ w = w' := by
  go_enter Tryz.func14, Tryz.ntmps14
  go_wp2
  go_ret
  exact ⟨rfl, rfl⟩

theorem infoU8 : (Tryz.prog.info? 5).map (fun i => (i.zero, i.size, i.bytes)) = some (some (.int .u8 0), 1, 1) := by kernel_rfl

theorem str_of_bs {w : World} {A : Option Addr} {c : Nat} {l : List UInt8} (h : Bs w A c l) : (convert 55 9 (.slice A l.length c)).run Tryz.prog w = .ok (.string ⟨l.toArray⟩) w := by
  cases l with
  | nil => exact run_convert_bytes_zero w 55 5 Tryz.underlying55 Tryz.underlying5 A c 9 Tryz.underlying9
  | cons x r =>
    obtain ⟨b, o, rfl, hx⟩ := h.cells (by simp)
    refine run_convert_bytes_back (P := Tryz.prog) w 55 9 5 ⟨b, o, none⟩ c (x :: r) Tryz.underlying55 Tryz.underlying5 Tryz.underlying9 fun j hj => ?_
    rw [Addr.add_lit, hx j (by omega), u8s_at hj]
    rw [List.getD_eq_getElem?_getD, List.getElem?_eq_getElem hj]
    rfl
/-- a slice of bytes cut -/
theorem Bs.cut {w : World} {A : Option Addr} {bb oo c i m : Nat} {l : List UInt8} (h : Bs w A c l) (hA : A = some ⟨bb, oo, none⟩) (him : i + m ≤ l.length) : Bs w (some ⟨bb, oo + i, none⟩) (c - i) ((l.drop i).take m) := by
  have hl := h.le
  have hbig := h.big
  have e : ((l.drop i).take m).length = m := by simp; omega
  refine ⟨by simp [u8s], by simp, by omega, by omega, fun hn => ⟨bb, oo + i, rfl, fun j hj => ?_⟩⟩
  rw [e] at hn hj
  obtain ⟨b2, o2, he, hx⟩ := h.cells (by omega)
  rw [hA] at he
  cases he
  rw [Nat.add_assoc, hx (i + j) (by omega), u8s_at (by omega), u8s_at (by omega)]
  simp [List.getD_eq_getElem?_getD, show j < m by omega]
/-- where 'b[l:]' begins -/
def cutA (A : Option Addr) (c l : Nat) : Option Addr := if c = l then A else A.map (·.add (l * 1))
theorem slice_lo (A : Option Addr) (n c l : Nat) (h : l ≤ n) (w : World) : (Instr.slice 55 (.slice A n c) (some (.int .i64 (l : Int))) none none).run Tryz.prog w = .ok (.slice (cutA A c l) (n - l) (c - l)) w := by
  have e : Tryz.prog.elem 55 = 5 := by kernel_rfl
  have ht : Tryz.prog.underlying 55 = some (.slice (Tryz.prog.elem 55)) := by rw [e]; exact Tryz.underlying55
  obtain ⟨i0, hi0, hz0, hz1, hz2⟩ := info_parts infoU8
  rw [run_slice_l (w := w) (ht := ht) (kl := .i64) (h0 := by omega) (h1 := by omega), e]
  simp [sizeOf, typeInfo, hi0, hz1, sliced, cutA]
theorem Bs.tail {w : World} {A : Option Addr} {c l : Nat} {L : List UInt8} (h : Bs w A c L) (hl : l ≤ L.length) : Bs w (cutA A c l) (c - l) (L.drop l) := by
  have h1 := h.le
  have h2 := h.big
  refine ⟨by simp [u8s], ?_, by simp; omega, by omega, fun hn => ?_⟩
  · intro hA
    unfold cutA at hA
    split at hA
    · rename_i e
      simp; omega
    · cases A with
      | none => have := h.nil rfl; simp; omega
      | some a => simp at hA
  · rw [List.length_drop] at hn
    obtain ⟨b, o, rfl, hx⟩ := h.cells (by omega)
    refine ⟨b, o + l, ?_, fun j hj => ?_⟩
    · unfold cutA
      rw [if_neg (by omega)]
      simp [Addr.add]
    · rw [List.length_drop] at hj
      rw [Nat.add_assoc, hx (l + j) (by omega), u8s_at (by omega), u8s_at (by simp; omega)]
      simp [List.getD_eq_getElem?_getD]
theorem own_of_block {w : World} {g base : Nat} {xs : List Value} {t : TypeId} (hb : base ≤ g) (h : w.heap[g]? = some (.cells xs.toArray t (0, 0))) (hm : xs.length ≤ maxLen) : w.ownsRow base t 1 (.slice (some ⟨g, 0, none⟩) xs.length xs.length) xs.length xs :=
  ⟨by simp, .inr ⟨g, xs.length, xs.toArray, rfl, hb, h, Nat.le_refl _, hm, by simp, by simp⟩⟩
def lenOf : Value → Nat
  | .slice _ n _ => n
  | _ => 0
theorem one_cell (n : Int) : ∀ u ∈ [Value.int .u8 n], u.oneCell' = true := by
  intro u hu
  simp only [List.mem_singleton] at hu
  subst hu
  rfl
theorem str_eq (a b : ByteArray) : (a.toList == b.toList) = decide (a = b) := by
  by_cases h : a = b
  · subst h; simp
  · have h2 : a.toList ≠ b.toList := fun e => h (by rw [Lib.toList_data, Lib.toList_data] at e; cases a; cases b; simpa using e)
    simp [h, h2]
def txs (D : List ByteArray) : List Value := D.map Value.string
theorem txs_one (D : List ByteArray) : ∀ u ∈ txs D, u.oneCell' = true := by
  intro u hu
  simp only [txs, List.mem_map] at hu
  obtain ⟨c, _, rfl⟩ := hu
  rfl
theorem txs_length (D : List ByteArray) : (txs D).length = D.length := by simp [txs]
theorem str_byte {s : ByteArray} {i : Nat} (hi : i < s.size) : s[i] = (toL s).getD i 0 := by
  have h : i < (toL s).length := by rw [toL_len]; exact hi
  rw [List.getD_eq_getElem?_getD, List.getElem?_eq_getElem h]
  rfl
theorem toList_toL (s : ByteArray) : s.toList = toL s := Lib.toList_data s
theorem bool_ret {a b : Bool} (h : b = a) : Ending.returned (.bool a) = .returned (.bool b) := by rw [h]
theorem beq_list {a b : List UInt8} (h : a ≠ b) : (a == b) = false := beq_eq_false_iff_ne.2 h
theorem infoStr1 : (Tryz.prog.info? 9).map (fun i => (i.zero, i.size, i.bytes)) = some (some (.string ByteArray.empty), 1, 16) := by kernel_rfl
theorem toL_extract (s : ByteArray) (a b : Nat) : toL (s.extract a b) = ((toL s).drop a).take (b - a) := Lib.extract_data s a b
theorem drop_getD {L : List UInt8} {i : Nat} (h : i < L.length) : L.drop i = L.getD i 0 :: L.drop (i + 1) := by
  rw [List.drop_eq_getElem_cons h]
  simp [List.getD_eq_getElem?_getD, h]
theorem drop_split (L : List UInt8) {f i : Nat} (h : f ≤ i) : L.drop f = (L.drop f).take (i - f) ++ L.drop i := by
  conv => lhs; rw [← List.take_append_drop (i - f) (L.drop f)]
  rw [List.drop_drop, show f + (i - f) = i by omega]
theorem str_at {w : World} {A : Option Addr} {c : Nat} {x : List ByteArray} (h : Sl w A c x.length 1 (x.map Value.string)) {i : Nat} (hi : i < x.length) : ∃ b o s, A = some ⟨b, o, none⟩ ∧ x[i]? = some s ∧ w.cell? ⟨b, o + i, none⟩ = some (.string s) := by
  obtain ⟨b, o, rfl, hx⟩ := h.cells (by omega)
  refine ⟨b, o, x[i], rfl, List.getElem?_eq_getElem hi, ?_⟩
  rw [hx i (by omega)]
  simp [hi]
theorem take_snoc {α : Type} {x : List α} {k : Nat} {s : α} (h : x[k]? = some s) : x.take (k + 1) = x.take k ++ [s] := by
  rw [List.take_add_one, h]; rfl
def TextRel (x y : List ByteArray) (w : World) (i : Value) (wr : World) : Prop := ∃ k : Nat, k ≤ x.length ∧ i = .int .i64 k ∧ x.take k = y.take k ∧ ∃ n, wr = w.drewN n

set_option maxHeartbeats 1000000 in
theorem texts_any (x y : List ByteArray) (A1 A2 : Option Addr) (c1 c2 : Nat) (w : World) (h1 : Sl w A1 c1 x.length 1 (x.map Value.string)) (h2 : Sl w A2 c2 y.length 1 (y.map Value.string)) :
    Calls Tryz.prog 15 #[.slice A1 x.length c1, .slice A2 y.length c2] w fun e w' => e = .returned (.bool (decide (x = y))) ∧ ∃ n, w' = w.drewN n := by
  have hx : x.length ≤ 9223372036854775807 := by have a := h1.le; have b := h1.big; unfold maxLen at b; omega
  have hy : y.length ≤ 9223372036854775807 := by have a := h2.le; have b := h2.big; unfold maxLen at b; omega
  have H1 := Lib.hid h1
  have H2 := Lib.hid h2
  clear h1 h2
  by_cases hl : x.length = y.length
  · have Hl := Lib.hid hl
    clear hl
    have hb : ((x.length : Int) != y.length) = false := by simp [Hl.out]
    go_enter Tryz.func15, Tryz.ntmps15
    go_wp2
    go_loopw [5] (fun i wr => TextRel x y w i wr) (fun i _ => x.length - (intOf i).toNat)
    case atStart => exact ⟨0, by omega, rfl, rfl, 0, rfl⟩
    case round =>
      obtain ⟨k, hk, rfl, hkk, n, rfl⟩ := hrel
      have Hkk := Lib.hid hkk
      clear hkk
      by_cases hlt : k < x.length
      · have hlt2 : k < y.length := by have := Hl.out; omega
        obtain ⟨b1, o1, p, rfl, hp, g1⟩ := str_at H1.out hlt
        obtain ⟨b2, o2, q, rfl, hq, g2⟩ := str_at H2.out hlt2
        have Hp := Lib.hid hp
        have Hq := Lib.hid hq
        clear hp hq
        have hseq := str_eq p q
        cases he : decide (p = q) with
        | true =>
          rw [he] at hseq
          have He := Lib.hid he
          clear he
          go_wp2_with fail
          go_quiet (fail)
          go_wp2
          go_roundw
          case rel =>
            refine ⟨k+1, by omega, by go_num, ?_, _, rfl⟩
            rw [take_snoc Hp.out, take_snoc Hq.out, Hkk.out, of_decide_eq_true He.out]
          case measure => simp [intOf]; omega
        | false =>
          rw [he] at hseq
          have He := Lib.hid he
          clear he
          go_wp2_with fail
          go_quiet (fail)
          go_wp2
          go_ret
          refine ⟨ret_bool ?_, n + nq, World.drewN_drewN _ _ _⟩
          symm; rw [decide_eq_false_iff_not]; rintro rfl
          have h3 := Hp.out.symm.trans Hq.out
          exact of_decide_eq_false He.out (Option.some.inj h3)
      · go_wp2
        go_ret
        have hkx : k = x.length := by omega
        refine ⟨ret_bool ?_, _, rfl⟩
        have h3 := Hkk.out
        have h4 := Hl.out
        rw [List.take_of_length_le (by omega), List.take_of_length_le (by omega)] at h3
        simp [h3]
  · have hb : ((x.length : Int) != y.length) = true := by rw [bne_iff_ne]; omega
    have Hl := Lib.hid hl
    clear hl
    go_enter Tryz.func15, Tryz.ntmps15
    go_wp2
    go_ret
    refine ⟨ret_bool ?_, 0, rfl⟩
    symm; rw [decide_eq_false_iff_not]; rintro rfl; exact Hl.out rfl
end Go.Proofs.YtniphdhbgebedaaGreatDoor
