/-
  The reference: LastSlash, Dir.
  The reference: Remove.
  The reference's Cut.
  The reference's Valid.
  The reference: Rename.
-/
import Derived.Test.YtaolddgnannojaaGreatDoorG29
import Derived.Lib.Strings
namespace Go.Proofs.YtaolddgnannojaaGreatDoor
open Go.RowKit Go.Maps

attribute [local go_sem] lt1 lt2 lt3 lt4 lt5 lt6

def LsRel (s : ByteArray) (w : World) (iv : Value) (wr : World) : Prop := ∃ k : Nat, k ≤ s.size ∧ iv = .int .i64 ((k : Int) - 1) ∧ Lib.lastIndexByte s 47 = Lib.lastIdx s 47 k ∧ wr = w
set_option maxHeartbeats 2000000 in
set_option maxRecDepth 100000 in
theorem last_any (w : World) (s : ByteArray) (hs : s.size ≤ 1048576) : Calls Tryz.prog 84 #[.string s] w fun e w' => e = .returned (.int .i64 (Lib.lastIndexByte s 47)) ∧ w' = w := by
  go_enter Tryz.func84, Tryz.ntmps84
  go_wp2_with fail
  go_loopw [3] (fun iv wr => LsRel s w iv wr) (fun iv _ => (intOf iv + 1).toNat)
  case atStart => exact ⟨s.size, Nat.le_refl _, rfl, rfl, rfl⟩
  case round =>
    obtain ⟨k, hk, rfl, hl, rfl⟩ := hrel
    have Hl := Lib.hid hl
    clear hl
    cases k with
    | zero =>
      have h0 : ¬ (0 : Int) ≤ ((0 : Nat) : Int) - 1 := by omega
      go_wp2_with fail
      go_ret
      exact ⟨by rw [Hl.out]; rfl, rfl⟩
    | succ k =>
      have e1 : (((k + 1 : Nat) : Int) - 1) = (k : Int) := by omega
      rw [e1]
      have hsk : k < s.size := by omega
      have e9 : s.data[k]! = s[k]'hsk := by rw [getElem!_pos s.data k hsk]; rfl
      by_cases hc : ((s.data[k]!).toNat : Int) = 47
      · have hb : (((s[k]'hsk).toNat : Int) == 47) = true := by rw [beq_iff_eq, ← e9]; exact hc
        have Hend := Lib.hid (Lib.lastIdx_hit s 47 k hc)
        have hkk : (k : Int) < s.size := by omega
        clear hc e9 e1
        go_wp2_with fail
        go_ret
        exact ⟨by rw [Hl.out, Hend.out]; rfl, rfl⟩
      · have hb : (((s[k]'hsk).toNat : Int) == 47) = false := by rw [beq_eq_false_iff_ne, ← e9]; exact hc
        have Hend := Lib.hid (Lib.lastIdx_miss s 47 k hc)
        have hkk : (k : Int) < s.size := by omega
        clear hc e9 e1
        go_wp2_with fail
        go_roundw
        case rel => exact ⟨k, by omega, rfl, by rw [Hl.out, Hend.out], rfl⟩
        case measure => simp [intOf]
set_option maxRecDepth 100000 in
theorem rdir_any (w : World) (s : ByteArray) (hs : s.size ≤ 1048576) : Calls Tryz.prog 50 #[.string s] w fun e w' => e = .returned (.string (dirOf s)) ∧ w' = w := by
  have hle : Lib.lastIndexByte s 47 ≤ s.size ∧ -1 ≤ Lib.lastIndexByte s 47 := by
    rcases Lib.lastIndexByte_spec s 47 with ⟨h, _⟩ | ⟨i, hi, h, _⟩
    · rw [h]; omega
    · rw [h]; omega
  have hla := last_any w s hs
  obtain ⟨D, hD⟩ : ∃ D, D = dirOf s := ⟨_, rfl⟩
  rw [← hD]
  unfold dirOf at hD
  generalize Lib.lastIndexByte s 47 = j at *
  by_cases hj : j < 0
  · have e0 : (max j 0).toNat = 0 := by omega
    have hD0 : D = ⟨#[]⟩ := by rw [hD, e0]; simp; rfl
    subst hD0
    clear hD e0
    go_enter Tryz.func50, Tryz.ntmps50
    go_wp2_with fail
    refine hla.mono ?_
    rintro e w1 ⟨rfl, rfl⟩
    go_wp2_with fail
    go_ret
    exact ⟨rfl, rfl⟩
  · have e0 : (max j 0).toNat = j.toNat := by omega
    have hj0 : 0 ≤ j := by omega
    rw [e0] at hD
    subst hD
    clear e0
    go_enter Tryz.func50, Tryz.ntmps50
    go_wp2_with fail
    refine hla.mono ?_
    rintro e w1 ⟨rfl, rfl⟩
    go_wp2_with fail
    go_ret
    exact ⟨rfl, rfl⟩
end Go.Proofs.YtaolddgnannojaaGreatDoor
namespace Go.Proofs.YtaolddgnannojaaGreatDoor
open Go.RowKit Go.Maps

attribute [local go_sem] lt1 lt2 lt3 lt4 lt5 lt6

/-- how great the reference is at most -/
structure RLim (R : RSt) : Prop where
  now : R.now.length ≤ 1048576
  safe : R.safe.length ≤ 1048576
  pend : R.pend.length ≤ 1048576
  nodes : R.nodes.length ≤ 1048576
  done : R.done ≤ 1048576
  armed : R.armed ≤ 9223372036854775807
  named : ∀ p ∈ R.now, p.1.size ≠ 0
theorem rat_mem {l : List NRow} {s : ByteArray} {i : Nat} (h : rat l s = some i) : (s, i) ∈ l := by
  unfold rat at h
  rw [Option.map_eq_some_iff] at h
  obtain ⟨p, h1, h2⟩ := h
  have h3 := List.mem_of_find?_eq_some h1
  have h4 := List.find?_some h1
  simp only [decide_eq_true_eq] at h4
  rw [← h4, ← h2]
  exact h3
def ROut (w : World) (M : RMem) (r : Nat × RSt) (e : Ending) (w' : World) : Prop := RPost w M r.2 (.int .i64 (r.1 : Nat)) e w'
set_option maxHeartbeats 4000000 in
set_option maxRecDepth 100000 in
theorem rremove_any (w : World) (M : RMem) (R : RSt) (h : RAt w M R) (hl : RLim R) (s : ByteArray) (hs : s.size ≤ 1048576) :
    Calls Tryz.prog 38 #[.pointer (some ⟨M.rb, 0, none⟩), .string s] w (ROut w M (R.remove s)) := by
  obtain ⟨P, hP⟩ : ∃ P, P = ROut w M (R.remove s) := ⟨_, rfl⟩
  rw [← hP]
  have HP := Lib.hid hP
  have H := Lib.hid h
  have HL := Lib.hid hl
  have c7 : w.cell? ⟨M.rb, 7, none⟩ = some (.bool R.out) := h.cell 7 _ rfl
  obtain ⟨Aw, cw, hwv, hat⟩ := h.now.rows
  have c2 : w.cell? ⟨M.rb, 2, none⟩ = some (.slice Aw R.now.length cw) := by rw [← hwv]; exact h.cell 2 _ rfl
  have Hat := Lib.hid hat
  clear hP h hl hat hwv
  by_cases ho : R.out = true
  · have Hend : Hid (P (.returned (.int .i64 5)) w) := Lib.hid (by
      rw [HP.out]
      unfold RSt.remove
      rw [if_pos ho]
      exact ⟨rfl, M, H.out, RGr.refl _ _⟩)
    rw [ho] at c7
    go_enter Tryz.func38, Tryz.ntmps38
    go_wp2_with fail
    exact Hend.out
  have hof : R.out = false := by simpa using ho
  rw [hof] at c7
  go_enter Tryz.func38, Tryz.ntmps38
  go_wp2_with fail
  refine (at_any w Aw cw R.now s Hat.out).mono ?_
  rintro e w1 ⟨rfl, n1, hw1⟩
  have h1 : RAt w1 M R := by rw [hw1]; exact H.out.drewN n1
  have B1 := Lib.hid (show Below w.heap.size w w1 by rw [hw1]; exact ⟨rfl, rfl, rfl, Nat.le_refl _, fun _ _ => rfl⟩)
  have H1 := Lib.hid h1
  clear hw1 h1 c7 c2 Hat
  cases hr : rat R.now s with
  | none =>
    have Hend : Hid (P (.returned (.int .i64 2)) w1) := Lib.hid (by
      rw [HP.out]
      unfold RSt.remove
      rw [if_neg ho, hr]
      exact ⟨rfl, M, H1.out, RGr.of_below B1.out⟩)
    show _
    simp only [atInt]
    go_wp2_with fail
    exact Hend.out
  | some i =>
    have hs0 := HL.out.named _ (rat_mem hr)
    simp only at hs0
    have hi0 : ¬ (i : Int) < 0 := by omega
    simp only [atInt]
    go_wp2_with fail
    refine (fails_any w1 M R H1.out hof HL.out.armed (by have := HL.out.done; omega)).mono ?_
    rintro e w2 ⟨rfl, M2, h2, g2⟩
    by_cases ha : R.armed = 1
    · rw [if_pos ha] at h2
      rw [decide_eq_true ha]
      have Hend : Hid (P (.returned (.int .i64 5)) w2) := Lib.hid (by
        rw [HP.out]
        unfold RSt.remove
        rw [if_neg ho, hr]
        simp only
        rw [if_pos ha]
        exact ⟨rfl, M2, h2, (RGr.of_below B1.out).trans g2⟩)
      clear h2 g2 ha
      go_wp2_with fail
      exact Hend.out
    · rw [if_neg ha] at h2
      rw [decide_eq_false ha]
      have H2 := Lib.hid h2
      have G2 := Lib.hid ((RGr.of_below (M := M) B1.out).trans g2)
      have hc := change_any w2 M2 R.did h2 ⟨dirOf s, s, ⟨#[]⟩, 0⟩ (.inl hs0) HL.out.now HL.out.pend
      unfold chCell at hc
      simp only at hc
      rw [g2.rb] at hc
      have Hc := Lib.hid hc
      have Hfin : Hid (∀ e w3, RPost w2 M2 (R.did.change ⟨dirOf s, s, ⟨#[]⟩, 0⟩) (.tuple #[]) e w3 → e = .returned (.tuple #[]) ∧ P (.returned (.int .i64 0)) w3) := Lib.hid fun e w3 ⟨he, M3, h3, g3⟩ => ⟨he, by
        rw [HP.out]
        unfold RSt.remove
        rw [if_neg ho, hr]
        simp only
        rw [if_neg ha]
        exact ⟨rfl, M3, h3, G2.out.trans g3⟩⟩
      clear h2 g2 ha hc
      go_wp2_with fail
      refine (rdir_any w2 s hs).mono ?_
      rintro e w3 ⟨rfl, rfl⟩
      go_wp2_with fail
      refine Hc.out.mono ?_
      intro e w4 hp
      obtain ⟨rfl, hq⟩ := Hfin.out e w4 hp
      have Hq := Lib.hid hq
      clear hp hq
      go_wp2_with fail
      exact Hq.out
end Go.Proofs.YtaolddgnannojaaGreatDoor
namespace Go.Proofs.YtaolddgnannojaaGreatDoor
open Go.RowKit

attribute [local go_sem] lt1 lt2 lt3 lt4 lt5 lt6

theorem infoStr1 : (Tryz.prog.info? 9).map (fun i => (i.zero, i.size, i.bytes)) = some (some (.string ByteArray.empty), 1, 16) := by kernel_rfl
theorem toL_extract (s : ByteArray) (a b : Nat) : toL (s.extract a b) = ((toL s).drop a).take (b - a) := Lib.extract_data s a b
theorem drop_getD {L : List UInt8} {i : Nat} (h : i < L.length) : L.drop i = L.getD i 0 :: L.drop (i + 1) := by
  rw [List.drop_eq_getElem_cons h]
  simp [List.getD_eq_getElem?_getD, h]
theorem drop_split (L : List UInt8) {f i : Nat} (h : f ≤ i) : L.drop f = (L.drop f).take (i - f) ++ L.drop i := by
  conv => lhs; rw [← List.take_append_drop (i - f) (L.drop f)]
  rw [List.drop_drop, show f + (i - f) = i by omega]
theorem cut_hit {c : UInt8} {L : List UInt8} {D : List (List UInt8)} {f i : Nat} (hfi : f ≤ i) (hi : i < L.length) (hc : L.getD i 0 = c) (hp : pieces c L = D ++ pieces c (L.drop f)) (hn : c ∉ (L.drop f).take (i - f)) :
    pieces c L = (D ++ [(L.drop f).take (i - f)]) ++ pieces c (L.drop (i + 1)) := by
  rw [hp, drop_split L hfi, drop_getD hi, hc, pieces_cut _ _ _ hn]
  rw [← hc, ← drop_getD hi, ← drop_split L hfi]
  simp
theorem cut_end {c : UInt8} {L : List UInt8} {D : List (List UInt8)} {f : Nat} (hp : pieces c L = D ++ pieces c (L.drop f)) (hn : c ∉ (L.drop f).take (L.length - f)) :
    pieces c L = D ++ [(L.drop f).take (L.length - f)] := by
  have e : (L.drop f).take (L.length - f) = L.drop f := List.take_of_length_le (by simp)
  rw [e] at hn ⊢
  rw [hp, pieces_end _ _ hn]
theorem cut_next {c : UInt8} {L : List UInt8} {f i : Nat} (hfi : f ≤ i) (hi : i < L.length) (hc : L.getD i 0 ≠ c) (hn : c ∉ (L.drop f).take (i - f)) : c ∉ (L.drop f).take (i + 1 - f) := by
  rw [show i + 1 - f = (i - f) + 1 by omega, List.take_succ_eq_append_getElem (by simp; omega)]
  simp only [List.mem_append, List.mem_singleton, not_or]
  refine ⟨hn, fun e => hc ?_⟩
  rw [e, List.getElem_drop, List.getD_eq_getElem?_getD, List.getElem?_eq_getElem hi]
  simp only [Option.getD_some]
  congr 1
  omega
def CutRelR (w : World) (s : ByteArray) (c : UInt8) (ov fv iv : Value) (wr : World) : Prop :=
  ∃ (i f : Nat) (D : List ByteArray), iv = .int .i64 i ∧ fv = .int .i64 f ∧ wr.ownsRow w.heap.size 9 1 ov D.length (txs D) ∧ Below w.heap.size w wr ∧ i ≤ s.size + 1 ∧ D.length ≤ s.size + 1 ∧
    ((i ≤ s.size ∧ f ≤ i ∧ D.length ≤ f ∧ pieces c (toL s) = D.map toL ++ pieces c ((toL s).drop f) ∧ c ∉ ((toL s).drop f).take (i - f)) ∨ (i = s.size + 1 ∧ pieces c (toL s) = D.map toL))
def CutPostR (w : World) (s : ByteArray) (c : UInt8) (e : Ending) (w' : World) : Prop :=
  ∃ (D : List ByteArray) (v : Value), D.map toL = pieces c (toL s) ∧ e = .returned v ∧ w'.ownsRow w.heap.size 9 1 v D.length (txs D) ∧ Below w.heap.size w w'
theorem txs_push {w : World} {base : Nat} {v : Value} {D : List ByteArray} {x : ByteArray} (h : w.ownsRow base 9 1 v (D.length + 1) (txs D ++ [.string x])) : w.ownsRow base 9 1 v (D ++ [x]).length (txs (D ++ [x])) := by
  rw [show (D ++ [x]).length = D.length + 1 by simp, show txs (D ++ [x]) = txs D ++ [.string x] by simp [txs]]
  exact h
set_option maxHeartbeats 2000000 in
set_option maxRecDepth 100000 in
theorem cut_ref (w : World) (s : ByteArray) (c : UInt8) (hl : s.size ≤ 1048576) :
    Calls Tryz.prog 83 #[.string s, .int .u8 (c.toNat : Nat)] w (CutPostR w s c) := by
  obtain ⟨i0, hi0, hz0, hz1, hz2⟩ := info_parts infoStr1
  go_enter Tryz.func83, Tryz.ntmps83
  go_wp2_with fail
  go_loopw [5, 6, 7] (fun ov fv iv wr => CutRelR w s c ov fv iv wr) (fun _ _ iv _ => s.size + 1 - (intOf iv).toNat)
  case atStart => exact ⟨0, 0, [], rfl, rfl, World.ownsRow_nil _ _ _ _, Below.refl _ _, by omega, by simp, .inl ⟨by omega, by omega, by simp, rfl, by simp⟩⟩
  case round =>
    obtain ⟨i, f, D, rfl, rfl, hown, hB, hi1, hD, hc⟩ := hrel
    have Hown := Lib.hid hown
    have HB := Lib.hid hB
    have hsz := hB.size
    obtain ⟨Av, cv, rfl, _, _, _, _⟩ := own_form hown
    clear hown hB
    have hir : (0 : Int) ≤ i := by omega
    rcases hc with ⟨hi, hfi, hDf, hp, hn⟩ | ⟨rfl, hp⟩
    · have Hp := Lib.hid hp
      have Hn := Lib.hid hn
      clear hp hn
      have hle : (i : Int) ≤ s.size := by omega
      by_cases heq : i = s.size
      · subst heq
        have hfz : (f : Int) ≤ s.size := by omega
        have hfr : (0 : Int) ≤ f := by omega
        have Hend : Hid (pieces c (toL s) = (D ++ [s.extract f s.size]).map toL) := Lib.hid (by
          have := cut_end Hp.out (by rw [toL_len]; exact Hn.out)
          rw [this, List.map_append, List.map_cons, List.map_nil, toL_extract, toL_len])
        clear Hp Hn
        go_wp2_with (first | (at_builtin; refine wpList_append_own _ rfl _ _ 81 rfl w.heap.size 9 i0 (.string ByteArray.empty) 1 16 Tryz.underlying81 hi0 hz0 hz1 hz2 rfl (by omega) (.slice Av D.length cv) D.length (txs D) rfl (Hown.out.alloc _) ⟨wr.heap.size, 0, none⟩ 1 1 [.string (s.extract f s.size)] rfl rfl (fun j v hv => World.news_of_block (w := wr.alloc _) (heap_alloc_new wr _) j v hv) (txs_one [s.extract f s.size]) (by unfold maxLen; omega) (by omega) (by simp; omega) ?_))
        intro v1 wp hown1 hgrow1 _
        have Hfin : Hid (CutRelR w s c v1 (.int .i64 ((s.size : Int) + 1)) (.int .i64 ((s.size : Int) + 1)) wp) := Lib.hid ⟨s.size + 1, s.size + 1, D ++ [s.extract f s.size], rfl, rfl, txs_push hown1, (HB.out.alloc hsz _).grown hgrow1 (by simp; omega) (fun k hk => (own_blk Hown.out k hk).1), by omega, by simp; omega, .inr ⟨rfl, Hend.out⟩⟩
        obtain ⟨Av1, cv1, rfl, _, _, _, _⟩ := own_form hown1
        clear hown1 hgrow1
        go_wp2_with fail
        exact ⟨Hfin.out, by simp [intOf]⟩
      · have hlt : i < s.size := by omega
        have hb := str_byte hlt
        obtain ⟨x, hx⟩ : ∃ x, x = (toL s).getD i 0 := ⟨_, rfl⟩
        rw [← hx] at hb
        have Hx := Lib.hid hx
        have hne : ((i : Int) == s.size) = false := by rw [beq_eq_false_iff_ne]; omega
        have hltI : (i : Int) < s.size := by omega
        clear hx
        by_cases hxc : x = c
        · subst hxc
          have hfz : (f : Int) ≤ i := by omega
          have hfr : (0 : Int) ≤ f := by omega
          have Hend : Hid (pieces x (toL s) = (D ++ [s.extract f i]).map toL ++ pieces x ((toL s).drop (i + 1))) := Lib.hid (by
            have := cut_hit hfi (by rw [toL_len]; exact hlt) Hx.out.symm Hp.out Hn.out
            rw [this, List.map_append, List.map_cons, List.map_nil, toL_extract])
          clear Hp Hn
          go_wp2_with (first | (at_builtin; refine wpList_append_own _ rfl _ _ 81 rfl w.heap.size 9 i0 (.string ByteArray.empty) 1 16 Tryz.underlying81 hi0 hz0 hz1 hz2 rfl (by omega) (.slice Av D.length cv) D.length (txs D) rfl (Hown.out.alloc _) ⟨wr.heap.size, 0, none⟩ 1 1 [.string (s.extract f i)] rfl rfl (fun j v hv => World.news_of_block (w := wr.alloc _) (heap_alloc_new wr _) j v hv) (txs_one [s.extract f i]) (by unfold maxLen; omega) (by omega) (by simp; omega) ?_))
          intro v1 wp hown1 hgrow1 _
          have Hfin : Hid (CutRelR w s x v1 (.int .i64 ((i : Int) + 1)) (.int .i64 ((i : Int) + 1)) wp) := Lib.hid ⟨i + 1, i + 1, D ++ [s.extract f i], rfl, rfl, txs_push hown1, (HB.out.alloc hsz _).grown hgrow1 (by simp; omega) (fun k hk => (own_blk Hown.out k hk).1), by omega, by simp; omega, .inl ⟨by omega, by omega, by simp; omega, Hend.out, by simp⟩⟩
          obtain ⟨Av1, cv1, rfl, _, _, _, _⟩ := own_form hown1
          clear hown1 hgrow1
          go_wp2_with fail
          exact ⟨Hfin.out, by simp [intOf]; omega⟩
        · have hneb : ((x.toNat : Int) == c.toNat) = false := by
            rw [beq_eq_false_iff_ne]; intro h; exact hxc (UInt8.toNat_inj.1 (by omega))
          have Hfin : Hid (CutRelR w s c (.slice Av D.length cv) (.int .i64 (f : Int)) (.int .i64 ((i : Int) + 1)) wr) := Lib.hid ⟨i + 1, f, D, rfl, rfl, Hown.out, HB.out, by omega, by omega, .inl ⟨by omega, by omega, hDf, Hp.out, cut_next hfi (by rw [toL_len]; exact hlt) (by rw [← Hx.out]; exact hxc) Hn.out⟩⟩
          clear Hp Hn hxc
          go_wp2_with fail
          exact ⟨Hfin.out, by simp [intOf]; omega⟩
    · have Hp := Lib.hid hp
      clear hp
      have hnle : ¬ ((s.size + 1 : Nat) : Int) ≤ s.size := by omega
      go_wp2_with fail
      go_ret
      exact ⟨D, _, Hp.out.symm, rfl, Hown.out, HB.out⟩
end Go.Proofs.YtaolddgnannojaaGreatDoor
namespace Go.Proofs.YtaolddgnannojaaGreatDoor
open Go.RowKit

set_option linter.unusedSimpArgs false

attribute [local go_sem] lt1 lt2 lt3 lt4 lt5 lt6

set_option maxHeartbeats 4000000 in
set_option maxRecDepth 100000 in
theorem rvalid_any (w : World) (s : ByteArray) (hl : s.size ≤ 1048576) :
    Calls Tryz.prog 49 #[.string s] w (ValidPost s w) := by
  by_cases h0 : toL s = []
  · have e : (s.toList == []) = true := by rw [toList_toL, h0]; rfl
    go_enter Tryz.func49, Tryz.ntmps49
    go_wp2_with fail
    go_ret
    exact ⟨bool_ret (by rw [h0]; rfl), Below.refl _ _⟩
  have e0 : (s.toList == []) = false := by rw [toList_toL]; exact beq_list h0
  have H0 := Lib.hid h0
  clear h0
  by_cases h240 : s.size ≤ 240
  case neg =>
    have hI : (240 : Int) < s.size := by omega
    go_enter Tryz.func49, Tryz.ntmps49
    go_wp2_with fail
    go_ret
    exact ⟨bool_ret (by unfold validF; rw [toL_len, decide_eq_false h240]; simp), Below.refl _ _⟩
  have hI : (s.size : Int) ≤ 240 := by omega
  have hcut := cut_ref w s 47 hl
  go_enter Tryz.func49, Tryz.ntmps49
  go_wp2_with fail
  refine hcut.mono ?_
  rintro e w1 ⟨D, v, hD, rfl, hrow, hb1⟩
  have hDl : D.length = (pieces 47 (toL s)).length := by rw [← hD, List.length_map]
  have hDp : 0 < D.length := by
    rw [hDl]
    exact List.length_pos_iff.2 (pieces_ne 47 (toL s))
  obtain ⟨A, c, rfl, hA0, hA1, _, _⟩ := own_form hrow
  obtain ⟨g, hA⟩ : ∃ g, A = some ⟨g, 0, none⟩ := by
    cases A with
    | none => have := (hA0 rfl).1; omega
    | some a => obtain ⟨g, rfl⟩ := hA1 a rfl; exact ⟨g, rfl⟩
  subst hA
  have hcells : Hid (∀ k, k < D.length → w1.cell? ⟨g, k, none⟩ = some (.string (D.getD k ⟨#[]⟩))) := Lib.hid fun k hk => own_cell hrow (by
    unfold txs
    rw [List.getElem?_map, List.getD_eq_getElem?_getD, List.getElem?_eq_getElem hk]
    rfl)
  have hpl : Hid (∀ k, k < D.length → (D.getD k ⟨#[]⟩).size ≤ s.size) := Lib.hid fun k hk => by
    have := pieces_le 47 (toL s) (toL (D.getD k ⟨#[]⟩)) (by
      rw [← hD]
      refine List.mem_map_of_mem ?_
      rw [List.getD_eq_getElem?_getD, List.getElem?_eq_getElem hk]
      exact List.getElem_mem _)
    rw [toL_len, toL_len] at this
    exact this
  have hDs : D.length ≤ 1048577 := by rw [hDl]; have := pieces_length 47 (toL s); rw [toL_len] at this; omega
  have HD := Lib.hid hD
  have HP : Hid (∀ b, validF (toL s) = b → ValidPost s w (.returned (.bool b)) w1) := Lib.hid fun b hb => ⟨bool_ret hb, hb1⟩
  clear hD hDl hDp hA0 hA1 hrow hb1 hcut
  go_wp2_with fail
  go_loop [4] (fun iv => ValidRel D iv) (fun iv => D.length - (intOf iv).toNat)
  case atStart => exact ⟨0, by omega, rfl, fun j hj => by omega⟩
  case round =>
    obtain ⟨k, hk, rfl, hok⟩ := hrel
    have Hok := Lib.hid hok
    clear hok
    have hkr : (0 : Int) ≤ k := by omega
    by_cases hlt : k < D.length
    · have hkI : (k : Int) < D.length := by omega
      have g1 := hcells.out k hlt
      have hxs := hpl.out k hlt
      have Hno := Lib.hid (valid_no HD.out hlt)
      have Hstep := Lib.hid (ValidRel.step hlt Hok.out)
      generalize D.getD k ⟨#[]⟩ = x at *
      by_cases h : toL x = []
      · have e1 : (x.toList == []) = true := by rw [toList_toL, h]; rfl
        have Hf := Lib.hid (Hno.out (by rw [h]; rfl))
        clear h
        go_wp2_with fail
        go_ret
        exact HP.out _ Hf.out
      by_cases h1 : toL x = [46]
      · have e1 : (x.toList == []) = false := by rw [toList_toL, h1]; rfl
        have e2 : (x.toList == [46]) = true := by rw [toList_toL, h1]; rfl
        have Hf := Lib.hid (Hno.out (by rw [h1]; rfl))
        clear h h1
        go_wp2_with fail
        go_ret
        exact HP.out _ Hf.out
      by_cases h2 : toL x = [46, 46]
      · have e1 : (x.toList == []) = false := by rw [toList_toL, h2]; rfl
        have e2 : (x.toList == [46]) = false := by rw [toList_toL, h2]; rfl
        have e3 : (x.toList == [46, 46]) = true := by rw [toList_toL, h2]; rfl
        have Hf := Lib.hid (Hno.out (by rw [h2]; rfl))
        clear h h1 h2
        go_wp2_with fail
        go_ret
        exact HP.out _ Hf.out
      have e1 : (x.toList == []) = false := by rw [toList_toL]; exact beq_list h
      have e2 : (x.toList == [46]) = false := by rw [toList_toL]; exact beq_list h1
      have e3 : (x.toList == [46, 46]) = false := by rw [toList_toL]; exact beq_list h2
      have Hfine := Lib.hid (ok_fine h h1 h2)
      have Hbad : Hid (∀ j, j < x.size → badByte ((toL x).getD j 0) = true → validF (toL s) = false) := Lib.hid fun j hj hb => Hno.out (ok_bad (by rw [toL_len]; exact hj) hb)
      clear h h1 h2 Hno
      go_wp2_with fail
      go_loop [5] (fun iv => InRel (toL x) x.size iv) (fun iv => x.size - (intOf iv).toNat)
      case atStart => exact ⟨0, by omega, rfl, fun j hj => by omega⟩
      case round =>
        obtain ⟨q, hq, rfl, hgood⟩ := hrel
        have Hgood := Lib.hid hgood
        clear hgood
        have hqr : (0 : Int) ≤ q := by omega
        by_cases hql : q < x.size
        · have hqI : (q : Int) < x.size := by omega
          have hbq : ∀ hb, x[q]'hb = (toL x).getD q 0 := fun hb => str_byte hb
          have hbn := bad_nat ((toL x).getD q 0)
          have hbd := Hbad.out q hql
          have Hst := Lib.hid (InRel.step hql Hgood.out)
          have h256 := ((toL x).getD q 0).toNat_lt
          generalize (toL x).getD q 0 = c at *
          by_cases b1 : c.toNat < 33
          · have Hf := Lib.hid (hbd (by rw [hbn]; simp; omega))
            have hcI : (c.toNat : Int) < 33 := by omega
            clear hbn hbd
            go_wp2_with fail
            go_ret
            exact HP.out _ Hf.out
          have hcI : (33 : Int) ≤ c.toNat := by omega
          by_cases b2 : 126 < c.toNat
          · have Hf := Lib.hid (hbd (by rw [hbn]; simp; omega))
            have hcJ : (126 : Int) < c.toNat := by omega
            clear hbn hbd
            go_wp2_with fail
            go_ret
            exact HP.out _ Hf.out
          have hcJ : (c.toNat : Int) ≤ 126 := by omega
          by_cases b3 : c.toNat = 92
          · have Hf := Lib.hid (hbd (by rw [hbn, b3]; rfl))
            have hcK : ((c.toNat : Int) == 92) = true := by rw [beq_iff_eq]; omega
            clear hbn hbd b3
            go_wp2_with fail
            go_ret
            exact HP.out _ Hf.out
          · have Hf := Lib.hid (Hst.out (by rw [hbn]; simp; omega))
            have hcK : ((c.toNat : Int) == 92) = false := by rw [beq_eq_false_iff_ne]; omega
            clear hbn hbd b3
            go_wp2_with fail
            exact ⟨Hf.out, by simp [intOf]; omega⟩
        · obtain rfl : q = x.size := by omega
          have Hv := Lib.hid (Hstep.out (Hfine.out fun j hj => Hgood.out j (by rw [← toL_len]; exact hj)))
          go_wp2_with fail
          exact ⟨Hv.out, by simp [intOf]; omega⟩
    · obtain rfl : k = D.length := by omega
      have Hf := Lib.hid (valid_yes HD.out H0.out h240 Hok.out)
      go_wp2_with fail
      go_ret
      exact HP.out _ Hf.out
end Go.Proofs.YtaolddgnannojaaGreatDoor
namespace Go.Proofs.YtaolddgnannojaaGreatDoor
open Go.RowKit Go.Maps

attribute [local go_sem] lt1 lt2 lt3 lt4 lt5 lt6

set_option maxHeartbeats 4000000 in
set_option maxRecDepth 100000 in
theorem rrename_any (w : World) (M : RMem) (R : RSt) (h : RAt w M R) (hl : RLim R) (a b : ByteArray) (hs2 : b.size ≤ 1048576) :
    Calls Tryz.prog 36 #[.pointer (some ⟨M.rb, 0, none⟩), .string a, .string b] w (ROut w M (R.rename a b)) := by
  obtain ⟨P, hP⟩ : ∃ P, P = ROut w M (R.rename a b) := ⟨_, rfl⟩
  rw [← hP]
  have HP := Lib.hid hP
  have H := Lib.hid h
  have HL := Lib.hid hl
  have c7 : w.cell? ⟨M.rb, 7, none⟩ = some (.bool R.out) := h.cell 7 _ rfl
  obtain ⟨Aw, cw, hwv, hat⟩ := h.now.rows
  have c2 : w.cell? ⟨M.rb, 2, none⟩ = some (.slice Aw R.now.length cw) := by rw [← hwv]; exact h.cell 2 _ rfl
  have Hat := Lib.hid hat
  clear hP h hl hat hwv
  by_cases ho : R.out = true
  · have Hend : Hid (P (.returned (.int .i64 5)) w) := Lib.hid (by
      rw [HP.out]
      unfold RSt.rename
      rw [if_pos ho]
      exact ⟨rfl, M, H.out, RGr.refl _ _⟩)
    rw [ho] at c7
    go_enter Tryz.func36, Tryz.ntmps36
    go_wp2_with fail
    exact Hend.out
  have hof : R.out = false := by simpa using ho
  rw [hof] at c7
  go_enter Tryz.func36, Tryz.ntmps36
  go_wp2_with fail
  refine (at_any w Aw cw R.now a Hat.out).mono ?_
  rintro e w1 ⟨rfl, n1, hw1⟩
  have h1 : RAt w1 M R := by rw [hw1]; exact H.out.drewN n1
  have B1 := Lib.hid (show Below w.heap.size w w1 by rw [hw1]; exact ⟨rfl, rfl, rfl, Nat.le_refl _, fun _ _ => rfl⟩)
  have H1 := Lib.hid h1
  clear hw1 h1 c7 c2 Hat
  cases hr : rat R.now a with
  | none =>
    have Hend : Hid (P (.returned (.int .i64 2)) w1) := Lib.hid (by
      rw [HP.out]
      unfold RSt.rename
      rw [if_neg ho, hr]
      exact ⟨rfl, M, H1.out, RGr.of_below B1.out⟩)
    show _
    simp only [atInt]
    go_wp2_with fail
    exact Hend.out
  | some i =>
    have hs0 := HL.out.named _ (rat_mem hr)
    simp only at hs0
    have hi0 : ¬ (i : Int) < 0 := by omega
    simp only [atInt]
    go_wp2_with fail
    refine (rvalid_any w1 b hs2).mono ?_
    rintro e w1b ⟨rfl, hbb⟩
    have H1b := Lib.hid (H1.out.below hbb)
    have B1b := Lib.hid (B1.out.trans (hbb.mono B1.out.size))
    clear hbb H1 B1
    by_cases hv : validF (toL b) = true
    case neg =>
      have hvf : validF (toL b) = false := by simpa using hv
      have Hend : Hid (P (.returned (.int .i64 1)) w1b) := Lib.hid (by
        rw [HP.out]
        unfold RSt.rename
        rw [if_neg ho, hr]
        simp only
        rw [if_neg hv]
        exact ⟨rfl, M, H1b.out, RGr.of_below B1b.out⟩)
      rw [hvf]
      clear hv hvf
      go_wp2_with fail
      exact Hend.out
    rw [hv]
    have HV := Lib.hid hv
    clear hv
    go_wp2_with fail
    refine (fails_any w1b M R H1b.out hof HL.out.armed (by have := HL.out.done; omega)).mono ?_
    rintro e w2 ⟨rfl, M2, h2, g2⟩
    by_cases ha : R.armed = 1
    · rw [if_pos ha] at h2
      rw [decide_eq_true ha]
      have Hend : Hid (P (.returned (.int .i64 5)) w2) := Lib.hid (by
        rw [HP.out]
        unfold RSt.rename
        rw [if_neg ho, hr]
        simp only
        rw [if_pos HV.out, if_pos ha]
        exact ⟨rfl, M2, h2, (RGr.of_below B1b.out).trans g2⟩)
      clear h2 g2 ha
      go_wp2_with fail
      exact Hend.out
    rw [if_neg ha] at h2
    rw [decide_eq_false ha]
    have hne := str_eq a b
    by_cases hab : a = b
    · rw [decide_eq_true hab] at hne
      have hbn : (a.toList != b.toList) = false := by rw [bne, hne]; rfl
      have Hend : Hid (P (.returned (.int .i64 0)) w2) := Lib.hid (by
        rw [HP.out]
        unfold RSt.rename
        rw [if_neg ho, hr]
        simp only
        rw [if_pos HV.out, if_neg ha, if_pos hab]
        exact ⟨rfl, M2, h2, (RGr.of_below B1b.out).trans g2⟩)
      clear h2 g2 ha hab
      go_wp2_with fail
      exact Hend.out
    · rw [decide_eq_false hab] at hne
      have hbn : (a.toList != b.toList) = true := by rw [bne, hne]; rfl
      have H2 := Lib.hid h2
      have G2 := Lib.hid ((RGr.of_below (M := M) B1b.out).trans g2)
      have hc := change_any w2 M2 R.did h2 ⟨dirOf b, a, b, i⟩ (.inl hs0) HL.out.now HL.out.pend
      unfold chCell at hc
      simp only at hc
      rw [g2.rb] at hc
      have Hc := Lib.hid hc
      have Hfin : Hid (∀ e w3, RPost w2 M2 (R.did.change ⟨dirOf b, a, b, i⟩) (.tuple #[]) e w3 → e = .returned (.tuple #[]) ∧ P (.returned (.int .i64 0)) w3) := Lib.hid fun e w3 ⟨he, M3, h3, g3⟩ => ⟨he, by
        rw [HP.out]
        unfold RSt.rename
        rw [if_neg ho, hr]
        simp only
        rw [if_pos HV.out, if_neg ha, if_neg hab]
        exact ⟨rfl, M3, h3, G2.out.trans g3⟩⟩
      clear h2 g2 ha hc hab
      go_wp2_with fail
      refine (rdir_any w2 b hs2).mono ?_
      rintro e w3 ⟨rfl, rfl⟩
      go_wp2_with fail
      refine Hc.out.mono ?_
      intro e w4 hp
      obtain ⟨rfl, hq⟩ := Hfin.out e w4 hp
      have Hq := Lib.hid hq
      clear hp hq
      go_wp2_with fail
      exact Hq.out
end Go.Proofs.YtaolddgnannojaaGreatDoor
