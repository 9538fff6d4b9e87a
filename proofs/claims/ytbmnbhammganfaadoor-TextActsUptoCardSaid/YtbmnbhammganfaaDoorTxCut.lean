/-
  Cut: the pieces of a text.
-/
import Derived.Test.YtbmnbhammganfaaDoorH5
import Derived.Test.YtbmnbhammganfaaDoorTxWx
namespace Go.Proofs.YtbmnbhammganfaaDoor
open Go.RowKit Go.Maps

set_option linter.unusedSimpArgs false

attribute [local go_sem] lt1 lt2 lt3 lt4 lt5 lt6

theorem cutL_piece {b : UInt8} : ∀ {x : List UInt8} (r : List UInt8), b ∉ x → cutL b (x ++ b :: r) = x :: cutL b r
  | [], r, _ => by rw [List.nil_append, cutL, if_pos rfl]
  | c :: x, r, h => by
    have h1 : c ≠ b := fun e => h (by simp [e])
    have h2 : b ∉ x := fun e => h (by simp [e])
    rw [List.cons_append, cutL, if_neg h1, cutL_piece r h2]
theorem cutL_last {b : UInt8} : ∀ {x : List UInt8}, b ∉ x → cutL b x = [x]
  | [], _ => rfl
  | c :: x, h => by
    have h1 : c ≠ b := fun e => h (by simp [e])
    have h2 : b ∉ x := fun e => h (by simp [e])
    rw [cutL, if_neg h1, cutL_last h2]
/-- the run of the loop: what stands in the list, where the piece begins, where we are -/
def CutRel (w : World) (b : UInt8) (s : ByteArray) (ov fv iv : Value) (wr : World) : Prop := ∃ (D : List ByteArray) (f i : Nat), fv = .int .i64 (f : Nat) ∧ iv = .int .i64 (i : Nat) ∧ wr.ownsRow w.heap.size 9 1 ov D.length (txs D) ∧ Below w.heap.size w wr ∧ D.length ≤ i ∧ i ≤ s.size + 1 ∧
  ((i ≤ s.size ∧ f ≤ i ∧ (∀ j, f ≤ j → j < i → (toL s).getD j 0 ≠ b) ∧ cutL b (toL s) = D.map toL ++ cutL b ((toL s).drop f)) ∨ (i = s.size + 1 ∧ cutL b (toL s) = D.map toL))
theorem no_byte {l : List UInt8} {b : UInt8} {f i : Nat} (h : ∀ j, f ≤ j → j < i → l.getD j 0 ≠ b) : b ∉ (l.drop f).take (i - f) := by
  intro hm
  obtain ⟨k, hk, he⟩ := List.getElem_of_mem hm
  rw [List.length_take, List.length_drop] at hk
  have h1 := h (f + k) (by omega) (by omega)
  apply h1
  rw [List.getElem_take, List.getElem_drop] at he
  rw [List.getD_eq_getElem?_getD, List.getElem?_eq_getElem (by omega), ← he]
  rfl
set_option maxRecDepth 100000 in
set_option maxHeartbeats 4000000 in
theorem cut_ref (w : World) (s : ByteArray) (b : UInt8) (hl : s.size ≤ 1048576) :
    Calls Tryd.prog 49 #[.string s, .int .u8 (b.toNat : Nat)] w fun e w' => ∃ (D : List ByteArray) (v : Value), e = .returned v ∧ w'.ownsRow w.heap.size 9 1 v D.length (txs D) ∧ Below w.heap.size w w' ∧ D.map toL = cutL b (toL s) := by
  obtain ⟨i0, hi0, hz0, hz1, hz2⟩ := info_parts infoStr1
  go_enter Tryd.func49, Tryd.ntmps49
  go_wp2_with fail
  go_loopw [5, 6, 7] (fun ov fv iv wr => CutRel w b s ov fv iv wr) (fun _ _ iv _ => s.size + 1 - (intOf iv).toNat)
  case atStart => exact ⟨[], 0, 0, rfl, rfl, World.ownsRow_nil _ _ _ _, Below.refl _ _, by simp, by omega, .inl ⟨by omega, by omega, fun j h1 h2 => by omega, by simp⟩⟩
  case round =>
    obtain ⟨D, f, i, rfl, rfl, hown, hB, hDi, hi1, hor⟩ := hrel
    have Hown := Lib.hid hown
    have HB := Lib.hid hB
    have hsz := hB.size
    obtain ⟨Av, cv, rfl, _, _, _, _⟩ := own_form hown
    clear hown hB
    rcases hor with ⟨hi, hfi, hno, hq⟩ | ⟨hi, hq⟩
    · have hiI : (i : Int) ≤ s.size := by omega
      have hfiI : (f : Int) ≤ i := by omega
      have Hno := Lib.hid hno
      have Hq := Lib.hid hq
      clear hno hq
      by_cases hie : i = s.size
      · have Hfin : Hid (cutL b (toL s) = (D ++ [s.extract f i]).map toL) := Lib.hid (by
          rw [Hq.out, List.map_append, List.map_singleton, toL_extract, hie]
          have h1 := no_byte Hno.out
          rw [hie] at h1
          rw [List.take_of_length_le (by rw [List.length_drop, toL_len]; omega)] at h1 ⊢
          rw [cutL_last h1])
        subst hie
        go_wp2_with (first | (at_builtin; refine wpList_append_own _ rfl _ _ 39 rfl w.heap.size 9 i0 (.string ByteArray.empty) 1 16 Tryd.underlying39 hi0 hz0 hz1 hz2 rfl (by omega) (.slice Av D.length cv) D.length (txs D) rfl (Hown.out.alloc _) ⟨wr.heap.size, 0, none⟩ 1 1 [.string (s.extract f s.size)] rfl rfl (fun j v hv => World.news_of_block (w := wr.alloc _) (heap_alloc_new wr _) j v hv) (txs_one [s.extract f s.size]) (by unfold maxLen; omega) (by omega) (by simp; omega) ?_))
        intro v1 wp hown1 hgrow1 _
        have Hown1 := Lib.hid (txs_push hown1)
        have HB1 := Lib.hid ((HB.out.alloc hsz _).grown hgrow1 (by simp; omega) (fun k hk => (own_blk Hown.out k hk).1))
        obtain ⟨Av1, cv1, rfl, _, _, _, _⟩ := own_form hown1
        clear hown1 hgrow1
        go_wp2_with fail
        go_roundw
        case rel =>
          exact ⟨D ++ [s.extract f s.size], s.size + 1, s.size + 1, by go_num, by go_num, Hown1.out, HB1.out, by simp; omega, by omega, .inr ⟨by omega, Hfin.out⟩⟩
        case measure => simp [intOf]
      · have heI : ((i : Int) == s.size) = false := by rw [beq_eq_false_iff_ne]; omega
        have hlt : i < s.size := by omega
        have hltI : (i : Int) < s.size := by omega
        have hb := str_byte hlt
        obtain ⟨c, hc⟩ : ∃ c, c = (toL s).getD i 0 := ⟨_, rfl⟩
        rw [← hc] at hb
        have Hc := Lib.hid hc
        clear hc
        by_cases hcb : c = b
        · have hcI : ((c.toNat : Int) == b.toNat) = true := by rw [hcb]; exact BEq.rfl
          have Hstep : Hid (cutL b (toL s) = (D ++ [s.extract f i]).map toL ++ cutL b ((toL s).drop (i + 1))) := Lib.hid (by
            rw [Hq.out, List.map_append, List.map_singleton, toL_extract, List.append_assoc]
            have h1 := no_byte Hno.out
            have h2 : (toL s).drop f = ((toL s).drop f).take (i - f) ++ (b :: (toL s).drop (i + 1)) := by
              conv => lhs; rw [drop_split (toL s) hfi, drop_getD (L := toL s) (i := i) (by rw [toL_len]; exact hlt), ← Hc.out, hcb]
            conv => lhs; rw [h2, cutL_piece _ h1]
            rfl)
          subst hcb
          go_wp2_with (first | (at_builtin; refine wpList_append_own _ rfl _ _ 39 rfl w.heap.size 9 i0 (.string ByteArray.empty) 1 16 Tryd.underlying39 hi0 hz0 hz1 hz2 rfl (by omega) (.slice Av D.length cv) D.length (txs D) rfl (Hown.out.alloc _) ⟨wr.heap.size, 0, none⟩ 1 1 [.string (s.extract f i)] rfl rfl (fun j v hv => World.news_of_block (w := wr.alloc _) (heap_alloc_new wr _) j v hv) (txs_one [s.extract f i]) (by unfold maxLen; omega) (by omega) (by simp; omega) ?_))
          intro v1 wp hown1 hgrow1 _
          have Hown1 := Lib.hid (txs_push hown1)
          have HB1 := Lib.hid ((HB.out.alloc hsz _).grown hgrow1 (by simp; omega) (fun k hk => (own_blk Hown.out k hk).1))
          obtain ⟨Av1, cv1, rfl, _, _, _, _⟩ := own_form hown1
          clear hown1 hgrow1
          go_wp2_with fail
          go_roundw
          case rel =>
            exact ⟨D ++ [s.extract f i], i + 1, i + 1, by go_num, by go_num, Hown1.out, HB1.out, by simp; omega, by omega, .inl ⟨by omega, by omega, fun j h1 h2 => by omega, Hstep.out⟩⟩
          case measure => simp [intOf]; omega
        · have hcI : ((c.toNat : Int) == b.toNat) = false := by
            rw [beq_eq_false_iff_ne]
            intro h
            exact hcb (UInt8.toNat_inj.1 (by omega))
          have Hcb := Lib.hid hcb
          clear hcb
          go_wp2_with fail
          go_roundw
          case rel =>
            refine ⟨D, f, i + 1, rfl, by go_num, Hown.out, HB.out, by omega, by omega, .inl ⟨by omega, by omega, fun j h1 h2 => ?_, Hq.out⟩⟩
            by_cases hj : j = i
            · rw [hj, ← Hc.out]; exact Hcb.out
            · exact Hno.out j h1 (by omega)
          case measure => simp [intOf]; omega
    · have hiI : ¬ (i : Int) ≤ s.size := by omega
      have Hq := Lib.hid hq
      clear hq
      go_wp2_with fail
      go_ret
      exact ⟨D, _, rfl, Hown.out, HB.out, Hq.out.symm⟩
end Go.Proofs.YtbmnbhammganfaaDoor
