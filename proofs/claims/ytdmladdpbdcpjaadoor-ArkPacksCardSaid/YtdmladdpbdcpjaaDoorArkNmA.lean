/-
  Names of an archive as plain functions: pieces of a text, which names may be, small letters, the first error of many.
  The pieces of a text between bytes of one kind: the reference's Cut. Two small functions on texts.
-/
import Derived.Lib.Split
import Derived.Laws.BitsAllLaws
import Derived.Test.YtdmladdpbdcpjaaDoorArkOwn
import Derived.Lib.Strings
namespace Go.Proofs.YtdmladdpbdcpjaaDoor

/-! ### pieces -/
/-- the pieces of a text between bytes of one kind -/
def pieces (c : UInt8) : List UInt8 → List (List UInt8)
  | [] => [[]]
  | x :: r => if x = c then [] :: pieces c r else match pieces c r with
    | p :: ps => (x :: p) :: ps
    | [] => [[x]]
theorem pieces_ne (c : UInt8) : ∀ l, pieces c l ≠ []
  | [] => by simp [pieces]
  | x :: r => by
    unfold pieces
    split
    · simp
    · split <;> simp
theorem pieces_cut (c : UInt8) (r : List UInt8) : ∀ p : List UInt8, c ∉ p → pieces c (p ++ c :: r) = p :: pieces c r
  | [], _ => by simp [pieces]
  | x :: p, h => by
    have hx : x ≠ c := fun e => h (by simp [e])
    have ih := pieces_cut c r p (fun hh => h (by simp [hh]))
    rw [List.cons_append, pieces, if_neg hx, ih]
theorem pieces_end (c : UInt8) : ∀ p : List UInt8, c ∉ p → pieces c p = [p]
  | [], _ => rfl
  | x :: p, h => by
    have hx : x ≠ c := fun e => h (by simp [e])
    have ih := pieces_end c p (fun hh => h (by simp [hh]))
    rw [pieces, if_neg hx, ih]
theorem pieces_all (c : UInt8) (l : List UInt8) : ∀ p ∈ pieces c l, c ∉ p := by
  induction l with
  | nil => simp [pieces]
  | cons x r ih =>
    intro p hp
    unfold pieces at hp
    split at hp
    · rcases List.mem_cons.1 hp with rfl | hp
      · simp
      · exact ih p hp
    · rename_i hx
      split at hp
      · rename_i q ps hq
        rcases List.mem_cons.1 hp with rfl | hp
        · have := ih q (by rw [hq]; simp)
          simp only [List.mem_cons, not_or]
          exact ⟨fun e => hx e.symm, this⟩
        · exact ih p (by rw [hq]; simp [hp])
      · simp only [List.mem_singleton] at hp
        subst hp
        simp only [List.mem_singleton]
        exact fun e => hx e.symm
theorem pieces_length (c : UInt8) : ∀ l : List UInt8, (pieces c l).length ≤ l.length + 1
  | [] => by simp [pieces]
  | x :: r => by
    have ih := pieces_length c r
    unfold pieces
    split
    · simp; omega
    · split
      · rename_i h; rw [h] at ih; simp at ih ⊢; omega
      · simp
theorem pieces_le (c : UInt8) (l : List UInt8) : ∀ p ∈ pieces c l, p.length ≤ l.length := by
  induction l with
  | nil => simp [pieces]
  | cons x r ih =>
    intro p hp
    unfold pieces at hp
    split at hp
    · rcases List.mem_cons.1 hp with rfl | hp
      · simp
      · have := ih p hp; simp; omega
    · split at hp
      · rename_i q ps hq
        rcases List.mem_cons.1 hp with rfl | hp
        · have := ih q (by rw [hq]; simp); simp; omega
        · have := ih p (by rw [hq]; simp [hp]); simp; omega
      · simp only [List.mem_singleton] at hp
        subst hp
        simp

/-! ### names -/
def badByte (c : UInt8) : Bool := decide (c < 0x20) || decide (0x7e < c) || [92, 58, 42, 63, 34, 60, 62, 124].contains c
def okPiece (x : List UInt8) : Bool := x != [] && x != [46] && x != [46, 46] && x.getD 0 0 != 32 && x.getD (x.length - 1) 0 != 32 && x.all (fun c => !badByte c)
def validName (s : List UInt8) : Bool := s != [] && decide (s.length ≤ 200) && (pieces 47 s).all okPiece
def lowB (c : UInt8) : UInt8 := if 65 ≤ c ∧ c ≤ 90 then c + 32 else c
def lowN (s : List UInt8) : List UInt8 := s.map lowB
/-- the error of a name behind others (given small) -/
def nameErr (seen : List (List UInt8)) (n : List UInt8) : Nat := if !validName n then 1 else if seen.contains (lowN n) then 12 else 0
/-- the first error of names -/
def namesErr : List (List UInt8) → List (List UInt8) → Nat
  | _, [] => 0
  | seen, n :: r => if nameErr seen n = 0 then namesErr (seen ++ [lowN n]) r else nameErr seen n
theorem namesErr_append (a b : List (List UInt8)) : ∀ seen, namesErr seen (a ++ b) = if namesErr seen a = 0 then namesErr (seen ++ a.map lowN) b else namesErr seen a := by
  induction a with
  | nil => intro seen; simp [namesErr]
  | cons x a ih =>
    intro seen
    rw [List.cons_append, namesErr, namesErr]
    split
    · rw [ih]; simp [List.append_assoc]
    · rfl
theorem nameErr_le (seen : List (List UInt8)) (n : List UInt8) : nameErr seen n = 0 ∨ nameErr seen n = 1 ∨ nameErr seen n = 12 := by
  unfold nameErr; split
  · simp
  · split <;> simp
theorem namesErr_le (l : List (List UInt8)) : ∀ seen, namesErr seen l = 0 ∨ namesErr seen l = 1 ∨ namesErr seen l = 12 := by
  induction l with
  | nil => intro _; simp [namesErr]
  | cons x l ih =>
    intro seen
    rw [namesErr]
    split
    · exact ih _
    · exact nameErr_le _ _
theorem nameErr_zero {seen : List (List UInt8)} {n : List UInt8} : nameErr seen n = 0 ↔ validName n = true ∧ lowN n ∉ seen := by
  unfold nameErr
  cases validName n
  · simp
  · by_cases h : lowN n ∈ seen <;> simp [h]
/-- names that may stand together: each is one, and no two are alike but for the case of letters -/
theorem namesErr_zero (l : List (List UInt8)) : ∀ seen, namesErr seen l = 0 ↔ (∀ n ∈ l, validName n = true ∧ lowN n ∉ seen) ∧ (l.map lowN).Pairwise (· ≠ ·) := by
  induction l with
  | nil => intro _; simp [namesErr]
  | cons x l ih =>
    intro seen
    rw [namesErr]
    by_cases h : nameErr seen x = 0
    · rw [if_pos h, ih]
      have h2 := nameErr_zero.1 h
      constructor
      · rintro ⟨a, b⟩
        refine ⟨fun n hn => ?_, List.pairwise_cons.2 ⟨fun y hy e => ?_, b⟩⟩
        · rcases List.mem_cons.1 hn with rfl | hn
          · exact h2
          · exact ⟨(a n hn).1, fun hh => (a n hn).2 (List.mem_append.2 (.inl hh))⟩
        · obtain ⟨n, hn, rfl⟩ := List.mem_map.1 hy
          exact (a n hn).2 (List.mem_append.2 (.inr (by simp [e])))
      · rintro ⟨a, b⟩
        obtain ⟨b1, b2⟩ := List.pairwise_cons.1 b
        refine ⟨fun n hn => ⟨(a n (by simp [hn])).1, fun hh => ?_⟩, b2⟩
        rcases List.mem_append.1 hh with hh | hh
        · exact (a n (by simp [hn])).2 hh
        · exact b1 _ (List.mem_map_of_mem hn) (List.mem_singleton.1 hh).symm
    · rw [if_neg h]
      refine iff_of_false h fun hh => h (nameErr_zero.2 (hh.1 x (by simp)))
theorem names_distinct {l : List (List UInt8)} {seen : List (List UInt8)} (h : namesErr seen l = 0) : l.Pairwise (· ≠ ·) := by
  have := ((namesErr_zero l seen).1 h).2
  rw [List.pairwise_map] at this
  exact this.imp fun hab e => hab (by rw [e])
theorem namesErr_perm {a b : List (List UInt8)} (hp : a.Perm b) (seen : List (List UInt8)) : namesErr seen a = 0 ↔ namesErr seen b = 0 := by
  rw [namesErr_zero, namesErr_zero]
  constructor
  · rintro ⟨h1, h2⟩
    exact ⟨fun n hn => h1 n (hp.mem_iff.2 hn), ((hp.map lowN).pairwise_iff (fun h => h.symm)).1 h2⟩
  · rintro ⟨h1, h2⟩
    exact ⟨fun n hn => h1 n (hp.mem_iff.1 hn), ((hp.map lowN).pairwise_iff (fun h => h.symm)).2 h2⟩
theorem validName_len {s : List UInt8} (h : validName s = true) : s.length ≤ 200 := by
  unfold validName at h
  simp only [Bool.and_eq_true, decide_eq_true_eq] at h
  exact h.1.2
end Go.Proofs.YtdmladdpbdcpjaaDoor
namespace Go.Proofs.YtdmladdpbdcpjaaDoor
open Go.RowKit

attribute [local go_sem] lt1 lt2 lt3 lt4 lt5 lt6

def toL (s : ByteArray) : List UInt8 := s.data.toList
def txs (D : List ByteArray) : List Value := D.map Value.string
theorem txs_one (D : List ByteArray) : ∀ u ∈ txs D, u.oneCell' = true := by
  intro u hu
  simp only [txs, List.mem_map] at hu
  obtain ⟨c, _, rfl⟩ := hu
  rfl
theorem txs_length (D : List ByteArray) : (txs D).length = D.length := by simp [txs]
theorem infoStr : (Tryd.prog.info? 9).map (fun i => (i.zero, i.size, i.bytes)) = some (some (.string ByteArray.empty), 1, 16) := by kernel_rfl
theorem toL_len (s : ByteArray) : (toL s).length = s.size := by unfold toL; rw [Array.length_toList]; rfl
theorem toL_inj {a b : ByteArray} (h : toL a = toL b) : a = b := by
  cases a; cases b
  unfold toL at h
  simpa using h
theorem toL_extract (s : ByteArray) (a b : Nat) : toL (s.extract a b) = ((toL s).drop a).take (b - a) := Lib.extract_data s a b
theorem drop_getD {L : List UInt8} {i : Nat} (h : i < L.length) : L.drop i = L.getD i 0 :: L.drop (i + 1) := by
  rw [List.drop_eq_getElem_cons h]
  simp [List.getD_eq_getElem?_getD, h]
theorem drop_split (L : List UInt8) {f i : Nat} (h : f ≤ i) : L.drop f = (L.drop f).take (i - f) ++ L.drop i := by
  conv => lhs; rw [← List.take_append_drop (i - f) (L.drop f)]
  rw [List.drop_drop, show f + (i - f) = i by omega]
theorem cut_hit {c : UInt8} {L : List UInt8} {D : List (List UInt8)} {f i : Nat} (hfi : f ≤ i) (hi : i < L.length) (hc : L.getD i 0 = c) (hp : pieces c L = D ++ pieces c (L.drop f)) (hn : c ∉ (L.drop f).take (i - f)) :
    pieces c L = (D ++ [(L.drop f).take (i - f)]) ++ pieces c (L.drop (i + 1)) := by
  rw [hp, drop_split L hfi, drop_getD hi, hc, pieces_cut _ _ _ hn]
  rw [← hc, ← drop_getD hi, ← drop_split L hfi]
  simp
theorem cut_end {c : UInt8} {L : List UInt8} {D : List (List UInt8)} {f : Nat} (hp : pieces c L = D ++ pieces c (L.drop f)) (hn : c ∉ (L.drop f).take (L.length - f)) :
    pieces c L = D ++ [(L.drop f).take (L.length - f)] := by
  have e : (L.drop f).take (L.length - f) = L.drop f := List.take_of_length_le (by simp)
  rw [e] at hn ⊢
  rw [hp, pieces_end _ _ hn]
theorem cut_next {c : UInt8} {L : List UInt8} {f i : Nat} (hfi : f ≤ i) (hi : i < L.length) (hc : L.getD i 0 ≠ c) (hn : c ∉ (L.drop f).take (i - f)) : c ∉ (L.drop f).take (i + 1 - f) := by
  rw [show i + 1 - f = (i - f) + 1 by omega, List.take_succ_eq_append_getElem (by simp; omega)]
  simp only [List.mem_append, List.mem_singleton, not_or]
  refine ⟨hn, fun e => hc ?_⟩
  rw [e, List.getElem_drop, List.getD_eq_getElem?_getD, List.getElem?_eq_getElem hi]
  simp only [Option.getD_some]
  congr 1
  omega
def CutRel (w : World) (s : ByteArray) (c : UInt8) (ov fv iv : Value) (wr : World) : Prop :=
  ∃ (i f : Nat) (D : List ByteArray), iv = .int .i64 i ∧ fv = .int .i64 f ∧ wr.ownsRow w.heap.size 9 1 ov D.length (txs D) ∧ Below w.heap.size w wr ∧ i ≤ s.size + 1 ∧ D.length ≤ s.size + 1 ∧
    ((i ≤ s.size ∧ f ≤ i ∧ D.length ≤ f ∧ pieces c (toL s) = D.map toL ++ pieces c ((toL s).drop f) ∧ c ∉ ((toL s).drop f).take (i - f)) ∨ (i = s.size + 1 ∧ pieces c (toL s) = D.map toL))
def CutPost (w : World) (s : ByteArray) (c : UInt8) (e : Ending) (w' : World) : Prop :=
  ∃ (D : List ByteArray) (v : Value), D.map toL = pieces c (toL s) ∧ e = .returned v ∧ w'.ownsRow w.heap.size 9 1 v D.length (txs D) ∧ Below w.heap.size w w'
theorem str_byte {s : ByteArray} {i : Nat} (hi : i < s.size) : s[i] = (toL s).getD i 0 := by
  have h : i < (toL s).length := by rw [toL_len]; exact hi
  rw [List.getD_eq_getElem?_getD, List.getElem?_eq_getElem h]
  rfl
theorem txs_push {w : World} {base : Nat} {v : Value} {D : List ByteArray} {x : ByteArray} (h : w.ownsRow base 9 1 v (D.length + 1) (txs D ++ [.string x])) : w.ownsRow base 9 1 v (D ++ [x]).length (txs (D ++ [x])) := by
  rw [show (D ++ [x]).length = D.length + 1 by simp, show txs (D ++ [x]) = txs D ++ [.string x] by simp [txs]]
  exact h
set_option maxHeartbeats 2000000 in
set_option maxRecDepth 100000 in
theorem cut_ref (w : World) (s : ByteArray) (c : UInt8) (hl : s.size ≤ 1048576) :
    Calls Tryd.prog 57 #[.string s, .int .u8 (c.toNat : Nat)] w (CutPost w s c) := by
  obtain ⟨i0, hi0, hz0, hz1, hz2⟩ := info_parts infoStr
  go_enter Tryd.func57, Tryd.ntmps57
  go_wp2_with fail
  go_loopw [5, 6, 7] (fun ov fv iv wr => CutRel w s c ov fv iv wr) (fun _ _ iv _ => s.size + 1 - (intOf iv).toNat)
  case atStart => exact ⟨0, 0, [], rfl, rfl, World.ownsRow_nil _ _ _ _, Below.refl _ _, by omega, by simp, .inl ⟨by omega, by omega, by simp, rfl, by simp⟩⟩
  case round =>
    obtain ⟨i, f, D, rfl, rfl, hown, hB, hi1, hD, hc⟩ := hrel
    have Hown := Lib.hid hown
    have HB := Lib.hid hB
    have hsz := hB.size
    obtain ⟨Av, cv, rfl, _, _, _, _⟩ := own_form hown
    clear hown hB
    have hir : (0 : Int) ≤ i := by omega
    rcases hc with ⟨hi, hfi, hDf, hp, hn⟩ | ⟨rfl, hp⟩
    · have Hp := Lib.hid hp
      have Hn := Lib.hid hn
      clear hp hn
      have hle : (i : Int) ≤ s.size := by omega
      by_cases heq : i = s.size
      · subst heq
        have hfz : (f : Int) ≤ s.size := by omega
        have hfr : (0 : Int) ≤ f := by omega
        have Hend : Hid (pieces c (toL s) = (D ++ [s.extract f s.size]).map toL) := Lib.hid (by
          have := cut_end Hp.out (by rw [toL_len]; exact Hn.out)
          rw [this, List.map_append, List.map_cons, List.map_nil, toL_extract, toL_len])
        clear Hp Hn
        go_wp2_with (first | (at_builtin; refine wpList_append_own _ rfl _ _ 72 rfl w.heap.size 9 i0 (.string ByteArray.empty) 1 16 Tryd.underlying72 hi0 hz0 hz1 hz2 rfl (by omega) (.slice Av D.length cv) D.length (txs D) rfl (Hown.out.alloc _) ⟨wr.heap.size, 0, none⟩ 1 1 [.string (s.extract f s.size)] rfl rfl (fun j v hv => World.news_of_block (w := wr.alloc _) (heap_alloc_new wr _) j v hv) (txs_one [s.extract f s.size]) (by unfold maxLen; omega) (by omega) (by simp; omega) ?_))
        intro v1 wp hown1 hgrow1 _
        have Hfin : Hid (CutRel w s c v1 (.int .i64 ((s.size : Int) + 1)) (.int .i64 ((s.size : Int) + 1)) wp) := Lib.hid ⟨s.size + 1, s.size + 1, D ++ [s.extract f s.size], rfl, rfl, txs_push hown1, (HB.out.alloc hsz _).grown hgrow1 (by simp; omega) (fun k hk => (own_blk Hown.out k hk).1), by omega, by simp; omega, .inr ⟨rfl, Hend.out⟩⟩
        obtain ⟨Av1, cv1, rfl, _, _, _, _⟩ := own_form hown1
        clear hown1 hgrow1
        go_wp2_with fail
        exact ⟨Hfin.out, by simp [intOf]⟩
      · have hlt : i < s.size := by omega
        have hb := str_byte hlt
        obtain ⟨x, hx⟩ : ∃ x, x = (toL s).getD i 0 := ⟨_, rfl⟩
        rw [← hx] at hb
        have Hx := Lib.hid hx
        have hne : ((i : Int) == s.size) = false := by rw [beq_eq_false_iff_ne]; omega
        have hltI : (i : Int) < s.size := by omega
        clear hx
        by_cases hxc : x = c
        · subst hxc
          have hfz : (f : Int) ≤ i := by omega
          have hfr : (0 : Int) ≤ f := by omega
          have Hend : Hid (pieces x (toL s) = (D ++ [s.extract f i]).map toL ++ pieces x ((toL s).drop (i + 1))) := Lib.hid (by
            have := cut_hit hfi (by rw [toL_len]; exact hlt) Hx.out.symm Hp.out Hn.out
            rw [this, List.map_append, List.map_cons, List.map_nil, toL_extract])
          clear Hp Hn
          go_wp2_with (first | (at_builtin; refine wpList_append_own _ rfl _ _ 72 rfl w.heap.size 9 i0 (.string ByteArray.empty) 1 16 Tryd.underlying72 hi0 hz0 hz1 hz2 rfl (by omega) (.slice Av D.length cv) D.length (txs D) rfl (Hown.out.alloc _) ⟨wr.heap.size, 0, none⟩ 1 1 [.string (s.extract f i)] rfl rfl (fun j v hv => World.news_of_block (w := wr.alloc _) (heap_alloc_new wr _) j v hv) (txs_one [s.extract f i]) (by unfold maxLen; omega) (by omega) (by simp; omega) ?_))
          intro v1 wp hown1 hgrow1 _
          have Hfin : Hid (CutRel w s x v1 (.int .i64 ((i : Int) + 1)) (.int .i64 ((i : Int) + 1)) wp) := Lib.hid ⟨i + 1, i + 1, D ++ [s.extract f i], rfl, rfl, txs_push hown1, (HB.out.alloc hsz _).grown hgrow1 (by simp; omega) (fun k hk => (own_blk Hown.out k hk).1), by omega, by simp; omega, .inl ⟨by omega, by omega, by simp; omega, Hend.out, by simp⟩⟩
          obtain ⟨Av1, cv1, rfl, _, _, _, _⟩ := own_form hown1
          clear hown1 hgrow1
          go_wp2_with fail
          exact ⟨Hfin.out, by simp [intOf]; omega⟩
        · have hneb : ((x.toNat : Int) == c.toNat) = false := by
            rw [beq_eq_false_iff_ne]; intro h; exact hxc (UInt8.toNat_inj.1 (by omega))
          have Hfin : Hid (CutRel w s c (.slice Av D.length cv) (.int .i64 (f : Int)) (.int .i64 ((i : Int) + 1)) wr) := Lib.hid ⟨i + 1, f, D, rfl, rfl, Hown.out, HB.out, by omega, by omega, .inl ⟨by omega, by omega, hDf, Hp.out, cut_next hfi (by rw [toL_len]; exact hlt) (by rw [← Hx.out]; exact hxc) Hn.out⟩⟩
          clear Hp Hn hxc
          go_wp2_with fail
          exact ⟨Hfin.out, by simp [intOf]; omega⟩
    · have Hp := Lib.hid hp
      clear hp
      have hnle : ¬ ((s.size + 1 : Nat) : Int) ≤ s.size := by omega
      go_wp2_with fail
      go_ret
      exact ⟨D, _, Hp.out.symm, rfl, Hown.out, HB.out⟩
end Go.Proofs.YtdmladdpbdcpjaaDoor
