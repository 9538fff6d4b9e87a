/-
  The first error of names: the package's, with a map of the names that came.
-/
import Derived.Test.YtdmladdpbdcpjaaDoorArkValid
import Derived.Test.YtdmladdpbdcpjaaDoorArkSmall
import Derived.Test.YtdmladdpbdcpjaaDoorArkFiles
namespace Go.Proofs.YtdmladdpbdcpjaaDoor
open Go.RowKit Go.Maps

attribute [local go_sem] lt1 lt2 lt3 lt4 lt5 lt6

def StrKey (s : ByteArray) : Value := .string s
theorem strKey_inj (a b : ByteArray) (h : StrKey a = StrKey b) : a = b := by unfold StrKey at h; simpa using h
theorem str_law : Keyed Tryd.prog 9 := string_keyed Tryd.underlying9
theorem str_key {s : ByteArray} (h : s.size ≤ maxLen) : keyOf Tryd.prog 9 (StrKey s) = some (.string s.data.toList) := Go.WideMaps.keyOf_string_mk Tryd.underlying9 h
def RAsk (v : Value) (n : Nat) : Prop := v = .int .i64 (n : Nat)
theorem zeroInt (w : World) : (zeroValue 3).run Tryd.prog w = .ok (.int .i64 0) w := by kernel_rfl
/-- the map at b knows just the (small) names of S, each once -/
def Seen (w : World) (b : Nat) (S : List (List UInt8)) : Prop := ∃ o m, w.heap[b]? = some o ∧ TMap Tryd.prog 9 o StrKey RAsk m ∧ ∀ x, look m x = if toL x ∈ S then some 1 else none
theorem Seen.made (w : World) : Seen (w.alloc (.map #[] 0)) w.heap.size [] := ⟨_, [], heap_alloc_new _ _, TMap.made _ _ _ _, fun _ => rfl⟩
theorem Seen.is_map {w : World} {b : Nat} {S : List (List UInt8)} (h : Seen w b S) : ∃ es c, w.heap[b]? = some (.map es c) := by
  obtain ⟨o, m, h1, h2, _⟩ := h
  obtain ⟨es, c, rfl⟩ := h2.is_map
  exact ⟨es, c, h1⟩
theorem Seen.below {w w' : World} {b : Nat} {S : List (List UInt8)} (h : Seen w b S) (hb : Below w.heap.size w w') : Seen w' b S := by
  obtain ⟨o, m, h1, h2⟩ := h
  exact ⟨o, m, (hb.block _ (lt_of_heap h1)).trans h1, h2⟩
def NamedPost (w : World) (b : Nat) (s : ByteArray) (S : List (List UInt8)) (e : Ending) (w' : World) : Prop :=
  e = .returned (.int .i64 (nameErr S (toL s) : Nat)) ∧ Fr [b] w w' ∧ (nameErr S (toL s) = 0 → Seen w' b (S ++ [lowN (toL s)]))
theorem ret_nat {a b : Int} (h : b = a) : Ending.returned (.int .i64 a) = .returned (.int .i64 b) := by rw [h]
set_option maxHeartbeats 2000000 in
set_option maxRecDepth 100000 in
theorem named_any (w : World) (b : Nat) (s : ByteArray) (S : List (List UInt8)) (hl : s.size ≤ 1048576) (hm : MaxL w) (hS : Seen w b S) :
    Calls Tryd.prog 62 #[.string s, .map (some b)] w (NamedPost w b s S) := by
  have HS := Lib.hid hS
  have hv := valid_any w s hl hm
  have hfo := fun w1 => fold_any w1 s hl
  clear hS hm
  by_cases hval : validName (toL s) = true
  case neg =>
    have hval : validName (toL s) = false := by simpa using hval
    have Hn : Hid (nameErr S (toL s) = 1) := Lib.hid (by unfold nameErr; rw [hval]; rfl)
    unfold ValidPost at hv
    rw [hval] at hv
    clear hval
    go_enter Tryd.func62, Tryd.ntmps62
    go_wp2_with fail
    refine hv.mono ?_
    rintro e w1 ⟨rfl, hb⟩
    have Hb := Lib.hid hb
    clear hb hv hfo
    go_wp2_with fail
    go_ret
    exact ⟨ret_nat (by rw [Hn.out]; rfl), Fr.of_below Hb.out _, fun h => by rw [Hn.out] at h; cases h⟩
  have Hval := Lib.hid hval
  unfold ValidPost at hv
  rw [hval] at hv
  clear hval
  go_enter Tryd.func62, Tryd.ntmps62
  go_wp2_with fail
  refine hv.mono ?_
  rintro e w1 ⟨rfl, hb⟩
  have Hb := Lib.hid hb
  clear hb hv
  go_wp2_with fail
  refine (hfo w1).mono ?_
  rintro e w2 ⟨rfl, hb2⟩
  have Hb2 := Lib.hid (Hb.out.trans (hb2.mono Hb.out.size))
  clear hb2 hfo
  obtain ⟨o, m, ho, T, hlook⟩ := HS.out.below Hb2.out
  obtain ⟨key, hkey⟩ : ∃ key : ByteArray, key = ⟨(lowN (toL s)).toArray⟩ := ⟨_, rfl⟩
  have hkl : toL key = lowN (toL s) := by rw [hkey]; rfl
  have hks : key.size ≤ maxLen := by rw [← toL_len, hkl, lowN_length, toL_len]; unfold maxLen; omega
  rw [← hkey]
  obtain ⟨v, ok, hlk, hrun⟩ := T.lookup str_law Tryd.underlying87 strKey_inj zeroInt (x := key) (str_key hks)
  have r1 := hrun w2 b false ho
  simp only [Bool.false_eq_true, if_false] at r1
  unfold StrKey at r1
  by_cases hin : lowN (toL s) ∈ S
  · have hm1 : look m key = some 1 := by rw [hlook, hkl, if_pos hin]
    have hv1 : v = .int .i64 1 := by
      rcases hlk with ⟨h, _, _⟩ | ⟨y, h, hR, _⟩
      · rw [hm1] at h; cases h
      · rw [hm1] at h; cases h; exact hR
    subst hv1
    obtain ⟨o', hr2, hT2⟩ := T.update str_law Tryd.underlying87 strKey_inj (x := key) (str_key hks) (.int .i64 2)
    have r2 := hr2 w2 b ho
    unfold StrKey at r2
    have T2 := hT2 RAsk 2 (fun _ _ h => h) rfl
    obtain ⟨v3, ok3, hlk3, hrun3⟩ := T2.lookup str_law Tryd.underlying87 strKey_inj zeroInt (x := key) (str_key hks)
    have hv3 : v3 = .int .i64 2 := by
      rcases hlk3 with ⟨h, _, _⟩ | ⟨y, h, hR, _⟩
      · rw [look_put, if_pos rfl] at h; cases h
      · rw [look_put, if_pos rfl] at h; cases h; exact hR
    subst hv3
    have r3 := hrun3 (ChangeMaps.setBlock w2 b o') b false (setBlock_same (lt_of_heap ho))
    simp only [Bool.false_eq_true, if_false] at r3
    unfold StrKey at r3
    have Hn : Hid (nameErr S (toL s) = 12) := Lib.hid (by unfold nameErr; rw [Hval.out]; simp [hin])
    have HF : Hid (Fr [b] w (ChangeMaps.setBlock w2 b o')) := Lib.hid ((Fr.of_below Hb2.out _).trans (Fr.setBlock _ _ _ _ (by simp)))
    clear hrun hr2 hT2 T2 hrun3 hlk3 T hlook hlk hin hm1 hkey hkl
    generalize ChangeMaps.setBlock w2 b o' = w3 at *
    go_wp2_with fail
    go_ret
    exact ⟨ret_nat (by rw [Hn.out]; rfl), HF.out, fun h => by rw [Hn.out] at h; cases h⟩
  · have hm1 : look m key = none := by rw [hlook, hkl, if_neg hin]
    have hv1 : v = .int .i64 0 := by
      rcases hlk with ⟨_, h, _⟩ | ⟨y, h, hR, _⟩
      · exact h
      · rw [hm1] at h; cases h
    subst hv1
    obtain ⟨o', hr2, hT2⟩ := T.update str_law Tryd.underlying87 strKey_inj (x := key) (str_key hks) (.int .i64 1)
    have r2 := hr2 w2 b ho
    unfold StrKey at r2
    have T2 := hT2 RAsk 1 (fun _ _ h => h) rfl
    obtain ⟨v3, ok3, hlk3, hrun3⟩ := T2.lookup str_law Tryd.underlying87 strKey_inj zeroInt (x := key) (str_key hks)
    have hv3 : v3 = .int .i64 1 := by
      rcases hlk3 with ⟨h, _, _⟩ | ⟨y, h, hR, _⟩
      · rw [look_put, if_pos rfl] at h; cases h
      · rw [look_put, if_pos rfl] at h; cases h; exact hR
    subst hv3
    have r3 := hrun3 (ChangeMaps.setBlock w2 b o') b false (setBlock_same (lt_of_heap ho))
    simp only [Bool.false_eq_true, if_false] at r3
    unfold StrKey at r3
    have Hn : Hid (nameErr S (toL s) = 0) := Lib.hid (nameErr_zero.2 ⟨Hval.out, hin⟩)
    have HF : Hid (Fr [b] w (ChangeMaps.setBlock w2 b o')) := Lib.hid ((Fr.of_below Hb2.out _).trans (Fr.setBlock _ _ _ _ (by simp)))
    have HSeen : Hid (Seen (ChangeMaps.setBlock w2 b o') b (S ++ [lowN (toL s)])) := Lib.hid ⟨o', put m key 1, setBlock_same (lt_of_heap ho), T2, fun x => by
      rw [look_put, hlook]
      by_cases hx : x = key
      · subst hx
        rw [if_pos rfl, hkl, if_pos (by simp)]
      · have hne : toL x ≠ lowN (toL s) := fun h => hx (toL_inj (h.trans hkl.symm))
        rw [if_neg hx]
        by_cases hs : toL x ∈ S
        · rw [if_pos hs, if_pos (by simp [hs])]
        · rw [if_neg hs, if_neg (by simp [hs, hne])]⟩
    clear hrun hr2 hT2 T2 hrun3 hlk3 T hlook hlk hin hm1 hkey hkl
    generalize ChangeMaps.setBlock w2 b o' = w3 at *
    go_wp2_with fail
    go_ret
    exact ⟨ret_nat (by rw [Hn.out]; rfl), HF.out, fun _ => HSeen.out⟩
/-! ### many names -/
def namesOf (l : List Fl) : List (List UInt8) := l.map fun p => toL p.1
theorem namesOf_len (l : List Fl) : (namesOf l).length = l.length := by simp [namesOf]
theorem namesOf_getD {l : List Fl} {i : Nat} (h : i < l.length) : (namesOf l).getD i [] = toL (l.getD i noFl).1 := by
  unfold namesOf
  rw [List.getD_eq_getElem?_getD, List.getElem?_map, getD_some h]
  rfl
theorem take_getD' {N : List (List UInt8)} {i : Nat} (h : i < N.length) : N.take (i + 1) = N.take i ++ [N.getD i []] := by
  rw [List.take_succ_eq_append_getElem h]
  simp [List.getD_eq_getElem?_getD, h]
theorem names_next {N : List (List UInt8)} {i : Nat} (h : i < N.length) (h0 : namesErr [] (N.take i) = 0) : namesErr [] (N.take (i + 1)) = nameErr ((N.take i).map lowN) (N.getD i []) := by
  rw [take_getD' h, namesErr_append, if_pos h0, List.nil_append, namesErr]
  split
  · rename_i h; rw [h]; rfl
  · rfl
theorem names_stop {N : List (List UInt8)} {i : Nat} (h : namesErr [] (N.take i) ≠ 0) : namesErr [] N = namesErr [] (N.take i) := by
  conv => lhs; rw [← List.take_append_drop i N]
  rw [namesErr_append, if_neg h]
def NmRel (w : World) (N : List (List UInt8)) (b n : Nat) (iv : Value) (wr : World) : Prop :=
  ∃ i, i ≤ n ∧ iv = .int .i64 (i : Nat) ∧ namesErr [] (N.take i) = 0 ∧ Seen wr b ((N.take i).map lowN) ∧ Below w.heap.size w wr
def NmPost (w : World) (l : List Fl) (e : Ending) (w' : World) : Prop := e = .returned (.int .i64 (namesErr [] (namesOf l) : Nat)) ∧ Below w.heap.size w w'
set_option maxHeartbeats 2000000 in
set_option maxRecDepth 100000 in
theorem names_any (w : World) (A : Option Addr) (c : Nat) (l : List Fl) (hf : FlAt w A c l) (hl : l.length ≤ 1048576) (hs : ∀ p ∈ l, p.1.size ≤ 1048576) (hm : MaxL w) :
    Calls Tryd.prog 46 #[.slice A l.length c] w (NmPost w l) := by
  have hmm := @run_makeMap Tryd.prog
  have Hf := Lib.hid hf
  have Hs := Lib.hid hs
  have Hm := Lib.hid hm
  clear hf hs hm
  obtain ⟨N, hN⟩ : ∃ N, N = namesOf l := ⟨_, rfl⟩
  have hNl : N.length = l.length := by rw [hN, namesOf_len]
  have HN := Lib.hid hN
  have HNl := Lib.hid hNl
  clear hN hNl
  have H0 : Hid (NmRel w N w.heap.size l.length (.int .i64 0) (w.alloc (.map #[] 0))) := Lib.hid ⟨0, by omega, rfl, rfl, Seen.made w, (Below.refl _ _).alloc (Nat.le_refl _) _⟩
  go_enter Tryd.func46, Tryd.ntmps46
  go_wp2_with fail
  clear hmm
  have Hp : Hid (∀ n w', namesErr [] (namesOf l) = n → Below w.heap.size w w' → NmPost w l (.returned (.int .i64 (n : Nat))) w') := Lib.hid fun n w' h hb => ⟨by rw [h], hb⟩
  obtain ⟨g, hg⟩ : ∃ g, g = w.heap.size := ⟨_, rfl⟩
  have Hg := Lib.hid hg
  rw [← hg] at H0 ⊢
  go_loopw [10] (fun iv wr => NmRel w N g l.length iv wr) (fun iv _ => l.length - (intOf iv).toNat)
  case atStart => exact H0.out
  case round =>
    obtain ⟨i, hi, rfl, h0, hsn, hB⟩ := hrel
    have H00 := Lib.hid h0
    have Hsn := Lib.hid hsn
    have HB := Lib.hid hB
    have hsz := hB.size
    clear h0 hsn hB hg H0
    have hir : (0 : Int) ≤ i := by omega
    by_cases hlt : i < l.length
    · have hlI : (i : Int) < l.length := by omega
      obtain ⟨bb, oo, Ai, ci, rfl, g1, g2, _⟩ := (Hf.out.below HB.out).at_ hlt
      have hps := Hs.out _ (List.mem_of_getElem? (getD_some hlt))
      have hnx := names_next (N := N) (i := i) (by rw [HNl.out]; exact hlt) H00.out
      have hgd : N.getD i [] = toL (l.getD i noFl).1 := by rw [HN.out]; exact namesOf_getD hlt
      rw [hgd] at hnx
      have hbw : bb < wr.heap.size := World.block_lt_of_cell? _ _ g1
      have hlow : ((N.take (i + 1)).map lowN) = (N.take i).map lowN ++ [lowN (toL (l.getD i noFl).1)] := by
        rw [take_getD' (by rw [HNl.out]; exact hlt), List.map_append, hgd]; rfl
      have Hlow := Lib.hid hlow
      have Hnx := Lib.hid hnx
      generalize l.getD i noFl = p at *
      have hS2 : Seen (wr.alloc (.cells #[.string p.1, .slice Ai p.2.length ci] 46)) g ((N.take i).map lowN) := Hsn.out.below ((Below.refl _ _).alloc (Nat.le_refl _) _)
      have hM2 : MaxL (wr.alloc (.cells #[.string p.1, .slice Ai p.2.length ci] 46)) := (Hm.out.below HB.out).below ((Below.refl _ _).alloc (Nat.le_refl _) _)
      have hcall := named_any _ g p.1 _ hps hM2 hS2
      have Hbm : Hid (Below w.heap.size w (wr.alloc (.cells #[.string p.1, .slice Ai p.2.length ci] 46))) := Lib.hid (HB.out.alloc hsz _)
      obtain ⟨n, hn⟩ : ∃ n, n = nameErr ((N.take i).map lowN) (toL p.1) := ⟨_, rfl⟩
      unfold NamedPost at hcall
      rw [← hn] at hcall
      have Hn := Lib.hid hn
      have hnle : n ≤ 12 := by rw [hn]; rcases nameErr_le ((N.take i).map lowN) (toL p.1) with h | h | h <;> omega
      clear hnx hgd hlow hS2 hM2 hn
      go_wp2_with fail
      refine hcall.mono ?_
      rintro e w2 ⟨rfl, hfr, hse⟩
      have Hb2 : Hid (Below w.heap.size w w2) := Lib.hid (Hbm.out.trans (hfr.below Hbm.out.size (by simp; have := Hg.out; omega)))
      have Hse := Lib.hid hse
      clear hfr hse hcall
      by_cases hz : n = 0
      · subst hz
        have Hfin : Hid (NmRel w N g l.length (.int .i64 ((i : Int) + 1)) w2) := Lib.hid ⟨i + 1, by omega, rfl, by rw [Hnx.out, ← Hn.out], by rw [Hlow.out]; exact Hse.out rfl, Hb2.out⟩
        go_wp2_with fail
        go_roundw
        case rel => exact Hfin.out
        case measure => simp [intOf]; omega
      · have hnb : ((n : Int) != 0) = true := by rw [bne_iff_ne]; omega
        have Hfin : Hid (namesErr [] (namesOf l) = n) := Lib.hid (by rw [← HN.out, names_stop (i := i + 1) (by rw [Hnx.out, ← Hn.out]; exact hz), Hnx.out, ← Hn.out])
        clear hz
        go_wp2_with fail
        go_ret
        exact Hp.out _ _ Hfin.out Hb2.out
    · obtain rfl : i = l.length := by omega
      have Hfin : Hid (namesErr [] (namesOf l) = 0) := Lib.hid (by rw [← HN.out]; have := H00.out; rw [List.take_of_length_le (by rw [HNl.out]; exact Nat.le_refl _)] at this; exact this)
      go_wp2_with fail
      go_ret
      exact Hp.out 0 _ Hfin.out HB.out
end Go.Proofs.YtdmladdpbdcpjaaDoor
