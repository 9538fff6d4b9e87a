/-
  The pieces of a text between bytes of one kind: the reference's Cut. Two small functions on texts.
-/
import Derived.Test.YtdmladdpbdcpjaaDoorArkOwn
import Derived.Test.YtdmladdpbdcpjaaDoorArkNames
import Derived.Lib.Strings
namespace Go.Proofs.YtdmladdpbdcpjaaDoor
open Go.RowKit

attribute [local go_sem] lt1 lt2 lt3 lt4 lt5 lt6

def toL (s : ByteArray) : List UInt8 := s.data.toList
def txs (D : List ByteArray) : List Value := D.map Value.string
theorem txs_one (D : List ByteArray) : ∀ u ∈ txs D, u.oneCell' = true := by
  intro u hu
  simp only [txs, List.mem_map] at hu
  obtain ⟨c, _, rfl⟩ := hu
  rfl
theorem txs_length (D : List ByteArray) : (txs D).length = D.length := by simp [txs]
theorem infoStr : (Tryd.prog.info? 9).map (fun i => (i.zero, i.size, i.bytes)) = some (some (.string ByteArray.empty), 1, 16) := by kernel_rfl
theorem toL_len (s : ByteArray) : (toL s).length = s.size := by unfold toL; rw [Array.length_toList]; rfl
theorem toL_inj {a b : ByteArray} (h : toL a = toL b) : a = b := by
  cases a; cases b
  unfold toL at h
  simpa using h
theorem toL_extract (s : ByteArray) (a b : Nat) : toL (s.extract a b) = ((toL s).drop a).take (b - a) := Lib.extract_data s a b
theorem drop_getD {L : List UInt8} {i : Nat} (h : i < L.length) : L.drop i = L.getD i 0 :: L.drop (i + 1) := by
  rw [List.drop_eq_getElem_cons h]
  simp [List.getD_eq_getElem?_getD, h]
theorem drop_split (L : List UInt8) {f i : Nat} (h : f ≤ i) : L.drop f = (L.drop f).take (i - f) ++ L.drop i := by
  conv => lhs; rw [← List.take_append_drop (i - f) (L.drop f)]
  rw [List.drop_drop, show f + (i - f) = i by omega]
theorem cut_hit {c : UInt8} {L : List UInt8} {D : List (List UInt8)} {f i : Nat} (hfi : f ≤ i) (hi : i < L.length) (hc : L.getD i 0 = c) (hp : pieces c L = D ++ pieces c (L.drop f)) (hn : c ∉ (L.drop f).take (i - f)) :
    pieces c L = (D ++ [(L.drop f).take (i - f)]) ++ pieces c (L.drop (i + 1)) := by
  rw [hp, drop_split L hfi, drop_getD hi, hc, pieces_cut _ _ _ hn]
  rw [← hc, ← drop_getD hi, ← drop_split L hfi]
  simp
theorem cut_end {c : UInt8} {L : List UInt8} {D : List (List UInt8)} {f : Nat} (hp : pieces c L = D ++ pieces c (L.drop f)) (hn : c ∉ (L.drop f).take (L.length - f)) :
    pieces c L = D ++ [(L.drop f).take (L.length - f)] := by
  have e : (L.drop f).take (L.length - f) = L.drop f := List.take_of_length_le (by simp)
  rw [e] at hn ⊢
  rw [hp, pieces_end _ _ hn]
theorem cut_next {c : UInt8} {L : List UInt8} {f i : Nat} (hfi : f ≤ i) (hi : i < L.length) (hc : L.getD i 0 ≠ c) (hn : c ∉ (L.drop f).take (i - f)) : c ∉ (L.drop f).take (i + 1 - f) := by
  rw [show i + 1 - f = (i - f) + 1 by omega, List.take_succ_eq_append_getElem (by simp; omega)]
  simp only [List.mem_append, List.mem_singleton, not_or]
  refine ⟨hn, fun e => hc ?_⟩
  rw [e, List.getElem_drop, List.getD_eq_getElem?_getD, List.getElem?_eq_getElem hi]
  simp only [Option.getD_some]
  congr 1
  omega
def CutRel (w : World) (s : ByteArray) (c : UInt8) (ov fv iv : Value) (wr : World) : Prop :=
  ∃ (i f : Nat) (D : List ByteArray), iv = .int .i64 i ∧ fv = .int .i64 f ∧ wr.ownsRow w.heap.size 9 1 ov D.length (txs D) ∧ Below w.heap.size w wr ∧ i ≤ s.size + 1 ∧ D.length ≤ s.size + 1 ∧
    ((i ≤ s.size ∧ f ≤ i ∧ D.length ≤ f ∧ pieces c (toL s) = D.map toL ++ pieces c ((toL s).drop f) ∧ c ∉ ((toL s).drop f).take (i - f)) ∨ (i = s.size + 1 ∧ pieces c (toL s) = D.map toL))
def CutPost (w : World) (s : ByteArray) (c : UInt8) (e : Ending) (w' : World) : Prop :=
  ∃ (D : List ByteArray) (v : Value), D.map toL = pieces c (toL s) ∧ e = .returned v ∧ w'.ownsRow w.heap.size 9 1 v D.length (txs D) ∧ Below w.heap.size w w'
theorem str_byte {s : ByteArray} {i : Nat} (hi : i < s.size) : s[i] = (toL s).getD i 0 := by
  have h : i < (toL s).length := by rw [toL_len]; exact hi
  rw [List.getD_eq_getElem?_getD, List.getElem?_eq_getElem h]
  rfl
theorem txs_push {w : World} {base : Nat} {v : Value} {D : List ByteArray} {x : ByteArray} (h : w.ownsRow base 9 1 v (D.length + 1) (txs D ++ [.string x])) : w.ownsRow base 9 1 v (D ++ [x]).length (txs (D ++ [x])) := by
  rw [show (D ++ [x]).length = D.length + 1 by simp, show txs (D ++ [x]) = txs D ++ [.string x] by simp [txs]]
  exact h
set_option maxHeartbeats 2000000 in
set_option maxRecDepth 100000 in
theorem cut_ref (w : World) (s : ByteArray) (c : UInt8) (hl : s.size ≤ 1048576) :
    Calls Tryd.prog 57 #[.string s, .int .u8 (c.toNat : Nat)] w (CutPost w s c) := by
  obtain ⟨i0, hi0, hz0, hz1, hz2⟩ := info_parts infoStr
  go_enter Tryd.func57, Tryd.ntmps57
  go_wp2_with fail
  go_loopw [5, 6, 7] (fun ov fv iv wr => CutRel w s c ov fv iv wr) (fun _ _ iv _ => s.size + 1 - (intOf iv).toNat)
  case atStart => exact ⟨0, 0, [], rfl, rfl, World.ownsRow_nil _ _ _ _, Below.refl _ _, by omega, by simp, .inl ⟨by omega, by omega, by simp, rfl, by simp⟩⟩
  case round =>
    obtain ⟨i, f, D, rfl, rfl, hown, hB, hi1, hD, hc⟩ := hrel
    have Hown := Lib.hid hown
    have HB := Lib.hid hB
    have hsz := hB.size
    obtain ⟨Av, cv, rfl, _, _, _, _⟩ := own_form hown
    clear hown hB
    have hir : (0 : Int) ≤ i := by omega
    rcases hc with ⟨hi, hfi, hDf, hp, hn⟩ | ⟨rfl, hp⟩
    · have Hp := Lib.hid hp
      have Hn := Lib.hid hn
      clear hp hn
      have hle : (i : Int) ≤ s.size := by omega
      by_cases heq : i = s.size
      · subst heq
        have hfz : (f : Int) ≤ s.size := by omega
        have hfr : (0 : Int) ≤ f := by omega
        have Hend : Hid (pieces c (toL s) = (D ++ [s.extract f s.size]).map toL) := Lib.hid (by
          have := cut_end Hp.out (by rw [toL_len]; exact Hn.out)
          rw [this, List.map_append, List.map_cons, List.map_nil, toL_extract, toL_len])
        clear Hp Hn
        go_wp2_with (first | (at_builtin; refine wpList_append_own _ rfl _ _ 72 rfl w.heap.size 9 i0 (.string ByteArray.empty) 1 16 Tryd.underlying72 hi0 hz0 hz1 hz2 rfl (by omega) (.slice Av D.length cv) D.length (txs D) rfl (Hown.out.alloc _) ⟨wr.heap.size, 0, none⟩ 1 1 [.string (s.extract f s.size)] rfl rfl (fun j v hv => World.news_of_block (w := wr.alloc _) (heap_alloc_new wr _) j v hv) (txs_one [s.extract f s.size]) (by unfold maxLen; omega) (by omega) (by simp; omega) ?_))
        intro v1 wp hown1 hgrow1 _
        have Hfin : Hid (CutRel w s c v1 (.int .i64 ((s.size : Int) + 1)) (.int .i64 ((s.size : Int) + 1)) wp) := Lib.hid ⟨s.size + 1, s.size + 1, D ++ [s.extract f s.size], rfl, rfl, txs_push hown1, (HB.out.alloc hsz _).grown hgrow1 (by simp; omega) (fun k hk => (own_blk Hown.out k hk).1), by omega, by simp; omega, .inr ⟨rfl, Hend.out⟩⟩
        obtain ⟨Av1, cv1, rfl, _, _, _, _⟩ := own_form hown1
        clear hown1 hgrow1
        go_wp2_with fail
        exact ⟨Hfin.out, by simp [intOf]⟩
      · have hlt : i < s.size := by omega
        have hb := str_byte hlt
        obtain ⟨x, hx⟩ : ∃ x, x = (toL s).getD i 0 := ⟨_, rfl⟩
        rw [← hx] at hb
        have Hx := Lib.hid hx
        have hne : ((i : Int) == s.size) = false := by rw [beq_eq_false_iff_ne]; omega
        have hltI : (i : Int) < s.size := by omega
        clear hx
        by_cases hxc : x = c
        · subst hxc
          have hfz : (f : Int) ≤ i := by omega
          have hfr : (0 : Int) ≤ f := by omega
          have Hend : Hid (pieces x (toL s) = (D ++ [s.extract f i]).map toL ++ pieces x ((toL s).drop (i + 1))) := Lib.hid (by
            have := cut_hit hfi (by rw [toL_len]; exact hlt) Hx.out.symm Hp.out Hn.out
            rw [this, List.map_append, List.map_cons, List.map_nil, toL_extract])
          clear Hp Hn
          go_wp2_with (first | (at_builtin; refine wpList_append_own _ rfl _ _ 72 rfl w.heap.size 9 i0 (.string ByteArray.empty) 1 16 Tryd.underlying72 hi0 hz0 hz1 hz2 rfl (by omega) (.slice Av D.length cv) D.length (txs D) rfl (Hown.out.alloc _) ⟨wr.heap.size, 0, none⟩ 1 1 [.string (s.extract f i)] rfl rfl (fun j v hv => World.news_of_block (w := wr.alloc _) (heap_alloc_new wr _) j v hv) (txs_one [s.extract f i]) (by unfold maxLen; omega) (by omega) (by simp; omega) ?_))
          intro v1 wp hown1 hgrow1 _
          have Hfin : Hid (CutRel w s x v1 (.int .i64 ((i : Int) + 1)) (.int .i64 ((i : Int) + 1)) wp) := Lib.hid ⟨i + 1, i + 1, D ++ [s.extract f i], rfl, rfl, txs_push hown1, (HB.out.alloc hsz _).grown hgrow1 (by simp; omega) (fun k hk => (own_blk Hown.out k hk).1), by omega, by simp; omega, .inl ⟨by omega, by omega, by simp; omega, Hend.out, by simp⟩⟩
          obtain ⟨Av1, cv1, rfl, _, _, _, _⟩ := own_form hown1
          clear hown1 hgrow1
          go_wp2_with fail
          exact ⟨Hfin.out, by simp [intOf]; omega⟩
        · have hneb : ((x.toNat : Int) == c.toNat) = false := by
            rw [beq_eq_false_iff_ne]; intro h; exact hxc (UInt8.toNat_inj.1 (by omega))
          have Hfin : Hid (CutRel w s c (.slice Av D.length cv) (.int .i64 (f : Int)) (.int .i64 ((i : Int) + 1)) wr) := Lib.hid ⟨i + 1, f, D, rfl, rfl, Hown.out, HB.out, by omega, by omega, .inl ⟨by omega, by omega, hDf, Hp.out, cut_next hfi (by rw [toL_len]; exact hlt) (by rw [← Hx.out]; exact hxc) Hn.out⟩⟩
          clear Hp Hn hxc
          go_wp2_with fail
          exact ⟨Hfin.out, by simp [intOf]; omega⟩
    · have Hp := Lib.hid hp
      clear hp
      have hnle : ¬ ((s.size + 1 : Nat) : Int) ≤ s.size := by omega
      go_wp2_with fail
      go_ret
      exact ⟨D, _, Hp.out.symm, rfl, Hown.out, HB.out⟩
end Go.Proofs.YtdmladdpbdcpjaaDoor
