/-
  Names in small letters: the reference's and the package's.
-/
import Derived.Test.YtdmladdpbdcpjaaDoorArkNmA
namespace Go.Proofs.YtdmladdpbdcpjaaDoor
open Go.RowKit

attribute [local go_sem] lt1 lt2 lt3 lt4 lt5 lt6

/-- the bytes of a text in a block of their own (a mark of the run-time's stands behind them) -/
def TxtAt (wr : World) (g cap : Nat) (l : List UInt8) : Prop :=
  ∃ cs, wr.heap[g]? = some (.cells cs 5 (cs.size, cs.size + 1)) ∧ cs.size = cap ∧ l.length ≤ cap ∧ ∀ (j : Nat) (x : UInt8), l[j]? = some x → cs[j]? = some (Value.int .u8 (x.toNat : Nat))
theorem heap_setCell_fr {w : World} {b : Nat} {cs : Array Value} {t : TypeId} {fr : Nat × Nat} (h : w.heap[b]? = some (.cells cs t fr)) (i : Nat) (v : Value) :
    (w.setCell ⟨b, i, none⟩ v).heap[b]? = some (.cells (cs.setIfInBounds i v) t fr) := by
  simp [World.setCell, Array.getElem?_modify, h]
theorem TxtAt.set {wr : World} {g cap : Nat} {l : List UInt8} (h : TxtAt wr g cap l) {i : Nat} (x : UInt8) : TxtAt (wr.setCell ⟨g, i, none⟩ (.int .u8 (x.toNat : Nat))) g cap (l.set i x) := by
  obtain ⟨cs, h1, h2, h3, h4⟩ := h
  refine ⟨cs.setIfInBounds i (.int .u8 (x.toNat : Nat)), ?_, by simpa using h2, by simpa using h3, fun j y hj => ?_⟩
  · rw [Array.size_setIfInBounds]; exact heap_setCell_fr h1 _ _
  · by_cases e : i = j
    · subst e
      have hil : i < l.length := by have := (List.getElem?_eq_some_iff.1 hj).1; simpa using this
      rw [List.getElem?_set_self hil] at hj
      cases hj
      rw [Array.getElem?_setIfInBounds_self_of_lt (by omega)]
    · rw [List.getElem?_set_ne e] at hj
      rw [Array.getElem?_setIfInBounds_ne e]
      exact h4 j y hj
theorem TxtAt.cell {wr : World} {g cap : Nat} {l : List UInt8} (h : TxtAt wr g cap l) {i : Nat} (hi : i < l.length) : wr.cell? ⟨g, i, none⟩ = some (.int .u8 ((l.getD i 0).toNat : Nat)) ∧ wr.frozen? ⟨g, i, none⟩ = false := by
  obtain ⟨cs, h1, h2, h3, h4⟩ := h
  have hx := h4 i (l.getD i 0) (by rw [List.getD_eq_getElem?_getD, List.getElem?_eq_getElem hi]; rfl)
  refine ⟨by simp [World.cell?, h1, hx], ?_⟩
  simp [World.frozen?, h1]
  omega
theorem TxtAt.string {wr : World} {g cap : Nat} {l : List UInt8} (h : TxtAt wr g cap l) : (convert 28 9 (.slice (some ⟨g, 0, none⟩) l.length cap)).run Tryd.prog wr = .ok (.string ⟨l.toArray⟩) wr :=
  run_convert_bytes_back (P := Tryd.prog) wr 28 9 5 ⟨g, 0, none⟩ cap l Tryd.underlying28 Tryd.underlying5 Tryd.underlying9 fun j hj => by
    rw [Addr.add_lit, Nat.zero_add, (h.cell hj).1]
    simp [List.getD_eq_getElem?_getD, hj]
theorem bytesRow_at (s : ByteArray) (c : Nat) {j : Nat} {x : UInt8} (h : (toL s)[j]? = some x) : (bytesRow s c)[j]? = some (.int .u8 (x.toNat : Nat)) := by
  have hj := (List.getElem?_eq_some_iff.1 h).1
  unfold bytesRow
  rw [Array.getElem?_append_left (by rw [Array.size_map]; rw [toL_len] at hj; exact hj), Array.getElem?_map]
  unfold toL at h
  rw [Array.getElem?_toList] at h
  rw [h]
  rfl
theorem bytesRow_size (s : ByteArray) {c : Nat} (h : s.size ≤ c) : (bytesRow s c).size = c := by
  unfold bytesRow
  rw [Array.size_append, Array.size_map, Array.size_replicate]
  show s.size + (c - s.size) = c
  omega
theorem TxtAt.made (w : World) (s : ByteArray) {c : Nat} (h : s.size ≤ c) : TxtAt (w.drew.alloc (.cells (bytesRow s c) 5 ((bytesRow s c).size, (bytesRow s c).size + 1))) w.heap.size c (toL s) :=
  ⟨bytesRow s c, heap_alloc_new w.drew _, bytesRow_size s h, by rw [toL_len]; exact h, fun _ _ hj => bytesRow_at s c hj⟩
theorem lowN_length (l : List UInt8) : (lowN l).length = l.length := by simp [lowN]
/-- the first i letters small -/
def lowTo (l : List UInt8) (i : Nat) : List UInt8 := lowN (l.take i) ++ l.drop i
theorem lowTo_zero (l : List UInt8) : lowTo l 0 = l := by simp [lowTo, lowN]
theorem lowTo_all (l : List UInt8) : lowTo l l.length = lowN l := by simp [lowTo]
theorem lowTo_length (l : List UInt8) (i : Nat) : (lowTo l i).length = l.length := by
  unfold lowTo
  rw [List.length_append, lowN_length, List.length_take, List.length_drop]
  omega
theorem lowTo_at {l : List UInt8} {i : Nat} (h : i < l.length) : (lowTo l i).getD i 0 = l.getD i 0 := by
  unfold lowTo
  rw [List.getD_eq_getElem?_getD, List.getElem?_append_right (by rw [lowN_length, List.length_take]; omega), lowN_length, List.length_take, List.getElem?_drop, List.getD_eq_getElem?_getD]
  congr 2
  omega
theorem lowTo_succ {l : List UInt8} {i : Nat} (h : i < l.length) : lowTo l (i + 1) = (lowTo l i).set i (lowB (l.getD i 0)) := by
  unfold lowTo
  rw [List.set_append_right _ _ (by rw [lowN_length, List.length_take]; omega), lowN_length, List.length_take, show i - min i l.length = 0 by omega]
  rw [drop_getD h, List.set_cons_zero, List.take_succ_eq_append_getElem h]
  unfold lowN
  rw [List.map_append, List.append_assoc]
  congr 1
  simp [List.getD_eq_getElem?_getD, h]
theorem lowTo_same {l : List UInt8} {i : Nat} (h : i < l.length) (hn : lowB (l.getD i 0) = l.getD i 0) : lowTo l (i + 1) = lowTo l i := by
  rw [lowTo_succ h, hn, ← lowTo_at h]
  apply List.ext_getElem?
  intro j
  by_cases e : i = j
  · subst e
    rw [List.getElem?_set_self (by rw [lowTo_length]; exact h), List.getD_eq_getElem?_getD, List.getElem?_eq_getElem (by rw [lowTo_length]; exact h)]
    rfl
  · rw [List.getElem?_set_ne e]
theorem lowB_up {x : UInt8} (h1 : 65 ≤ x.toNat) (h2 : x.toNat ≤ 90) : lowB x = x + 32 ∧ (x + 32).toNat = x.toNat + 32 := by
  have a1 : (65 : UInt8) ≤ x := UInt8.le_iff_toNat_le.2 (by simpa using h1)
  have a2 : x ≤ (90 : UInt8) := UInt8.le_iff_toNat_le.2 (by simpa using h2)
  refine ⟨if_pos ⟨a1, a2⟩, ?_⟩
  rw [UInt8.toNat_add]
  simp
  omega
theorem lowB_not {x : UInt8} (h : ¬ (65 ≤ x.toNat ∧ x.toNat ≤ 90)) : lowB x = x := by
  refine if_neg fun ⟨a, b⟩ => h ⟨?_, ?_⟩
  · have := UInt8.le_iff_toNat_le.1 a; simpa using this
  · have := UInt8.le_iff_toNat_le.1 b; simpa using this
def LowRel (w : World) (s : ByteArray) (g cap : Nat) (iv : Value) (wr : World) : Prop := ∃ i, i ≤ s.size ∧ iv = .int .i64 (i : Nat) ∧ TxtAt wr g cap (lowTo (toL s) i) ∧ Below w.heap.size w wr
def LowPost (w : World) (s : ByteArray) (e : Ending) (w' : World) : Prop := e = .returned (.string ⟨(lowN (toL s)).toArray⟩) ∧ Below w.heap.size w w'
theorem conv_txt (s : ByteArray) (w : World) (hl : s.size ≤ 1048576) : ∃ c, s.size ≤ c ∧ c ≤ maxLen ∧ (convert 9 28 (.string s)).run Tryd.prog w = .ok (.slice (some ⟨w.heap.size, 0, none⟩) s.size c) (w.drew.alloc (.cells (bytesRow s c) 5 ((bytesRow s c).size, (bytesRow s c).size + 1))) :=
  ⟨_, grownCap_ge _ _ _ _, grownCap_le_maxLen _ _ _ _ (by unfold maxLen; omega), run_bytes_of_string (P := Tryd.prog) w 9 28 5 s Tryd.underlying9 Tryd.underlying28 Tryd.underlying5⟩
set_option maxHeartbeats 2000000 in
set_option maxRecDepth 100000 in
theorem small_ref (w : World) (s : ByteArray) (hl : s.size ≤ 1048576) :
    Calls Tryd.prog 76 #[.string s] w (LowPost w s) := by
  obtain ⟨c, hc1, hc2, hcv⟩ := conv_txt s w hl
  have H0 := Lib.hid (TxtAt.made w s hc1)
  generalize bytesRow s c = C at *
  go_enter Tryd.func76, Tryd.ntmps76
  go_wp2_with fail
  clear hcv
  have Hst : Hid (LowRel w s w.heap.size c (.int .i64 0) (w.drew.alloc (.cells C 5 (C.size, C.size + 1)))) := Lib.hid ⟨0, by omega, rfl, by rw [lowTo_zero]; exact H0.out, ((Below.refl _ _).drew).alloc (Nat.le_refl _) _⟩
  go_loopw [4] (fun iv wr => LowRel w s w.heap.size c iv wr) (fun iv _ => s.size - (intOf iv).toNat)
  case atStart => exact Hst.out
  case round =>
    obtain ⟨i, hi, rfl, ht, hB⟩ := hrel
    have HB := Lib.hid hB
    have Ht := Lib.hid ht
    have hsz := hB.size
    clear hB ht H0 Hst
    have hir : (0 : Int) ≤ i := by omega
    by_cases hlt : i < s.size
    · have hil : i < (toL s).length := by rw [toL_len]; exact hlt
      have hlI : (i : Int) < s.size := by omega
      have hic : (i : Int) < c := by omega
      obtain ⟨g1, g2⟩ := Ht.out.cell (i := i) (by rw [lowTo_length]; exact hil)
      rw [lowTo_at hil] at g1
      have hs1 := fun h => lowTo_same hil h
      have hs2 := lowTo_succ hil
      have hxl := ((toL s).getD i 0).toNat_lt
      generalize (toL s).getD i 0 = x at *
      by_cases hup : 65 ≤ x.toNat ∧ x.toNat ≤ 90
      · obtain ⟨u1, u2⟩ := lowB_up hup.1 hup.2
        obtain ⟨hu1, hu2⟩ := hup
        have hI1 : (65 : Int) ≤ x.toNat := by omega
        have hI2 : (x.toNat : Int) ≤ 90 := by omega
        have Hfin : Hid (LowRel w s w.heap.size c (.int .i64 ((i : Int) + 1)) (wr.setCell ⟨w.heap.size, i, none⟩ (.int .u8 ((x.toNat : Int) + 32)))) := Lib.hid ⟨i + 1, by omega, rfl, by
          rw [hs2, u1]
          have := Ht.out.set (i := i) (x + 32)
          rw [u2] at this
          exact this, HB.out.setCell (Nat.le_refl _) _⟩
        clear hs1 hs2 u1 u2 hxl Ht
        go_wp2_with fail
        exact ⟨Hfin.out, by simp [intOf]; omega⟩
      · have Hfin : Hid (LowRel w s w.heap.size c (.int .i64 ((i : Int) + 1)) wr) := Lib.hid ⟨i + 1, by omega, rfl, by rw [hs1 (lowB_not hup)]; exact Ht.out, HB.out⟩
        clear hs1 hs2
        rcases (by omega : x.toNat < 65 ∨ 65 ≤ x.toNat ∧ 90 < x.toNat) with hu | ⟨hu, hu'⟩
        · have hI1 : ¬ (65 : Int) ≤ x.toNat := by omega
          clear hup Ht
          go_wp2_with fail
          exact ⟨Hfin.out, by simp [intOf]; omega⟩
        · have hI1 : (65 : Int) ≤ x.toNat := by omega
          have hI2 : ¬ (x.toNat : Int) ≤ 90 := by omega
          clear hup Ht
          go_wp2_with fail
          exact ⟨Hfin.out, by simp [intOf]; omega⟩
    · obtain rfl : i = s.size := by omega
      have ht := Ht.out
      rw [← toL_len, lowTo_all] at ht
      have hst := ht.string
      rw [lowN_length, toL_len] at hst
      clear ht Ht
      go_wp2_with fail
      go_ret
      exact ⟨rfl, HB.out⟩
set_option maxHeartbeats 2000000 in
set_option maxRecDepth 100000 in
theorem fold_any (w : World) (s : ByteArray) (hl : s.size ≤ 1048576) :
    Calls Tryd.prog 87 #[.string s] w (LowPost w s) := by
  obtain ⟨c, hc1, hc2, hcv⟩ := conv_txt s w hl
  have H0 := Lib.hid (TxtAt.made w s hc1)
  generalize bytesRow s c = C at *
  go_enter Tryd.func87, Tryd.ntmps87
  go_wp2_with fail
  clear hcv
  have Hst : Hid (LowRel w s w.heap.size c (.int .i64 0) (w.drew.alloc (.cells C 5 (C.size, C.size + 1)))) := Lib.hid ⟨0, by omega, rfl, by rw [lowTo_zero]; exact H0.out, ((Below.refl _ _).drew).alloc (Nat.le_refl _) _⟩
  go_loopw [10] (fun iv wr => LowRel w s w.heap.size c iv wr) (fun iv _ => s.size - (intOf iv).toNat)
  case atStart => exact Hst.out
  case round =>
    obtain ⟨i, hi, rfl, ht, hB⟩ := hrel
    have HB := Lib.hid hB
    have Ht := Lib.hid ht
    have hsz := hB.size
    clear hB ht H0 Hst
    have hir : (0 : Int) ≤ i := by omega
    by_cases hlt : i < s.size
    · have hil : i < (toL s).length := by rw [toL_len]; exact hlt
      have hlI : (i : Int) < s.size := by omega
      have hic : (i : Int) < c := by omega
      obtain ⟨g1, g2⟩ := Ht.out.cell (i := i) (by rw [lowTo_length]; exact hil)
      rw [lowTo_at hil] at g1
      have hs1 := fun h => lowTo_same hil h
      have hs2 := lowTo_succ hil
      have hxl := ((toL s).getD i 0).toNat_lt
      generalize (toL s).getD i 0 = x at *
      by_cases hup : 65 ≤ x.toNat ∧ x.toNat ≤ 90
      · obtain ⟨u1, u2⟩ := lowB_up hup.1 hup.2
        obtain ⟨hu1, hu2⟩ := hup
        have hI1 : (65 : Int) ≤ x.toNat := by omega
        have hI2 : (x.toNat : Int) ≤ 90 := by omega
        have Hfin : Hid (LowRel w s w.heap.size c (.int .i64 ((i : Int) + 1)) (wr.setCell ⟨w.heap.size, i, none⟩ (.int .u8 ((x.toNat : Int) - 65 + 97)))) := Lib.hid ⟨i + 1, by omega, rfl, by
          rw [hs2, u1]
          have := Ht.out.set (i := i) (x + 32)
          rw [u2, show (((x.toNat + 32 : Nat)) : Int) = (x.toNat : Int) - 65 + 97 by omega] at this
          exact this, HB.out.setCell (Nat.le_refl _) _⟩
        clear hs1 hs2 u1 u2 hxl Ht
        go_wp2_with fail
        exact ⟨Hfin.out, by simp [intOf]; omega⟩
      · have Hfin : Hid (LowRel w s w.heap.size c (.int .i64 ((i : Int) + 1)) wr) := Lib.hid ⟨i + 1, by omega, rfl, by rw [hs1 (lowB_not hup)]; exact Ht.out, HB.out⟩
        clear hs1 hs2
        rcases (by omega : x.toNat < 65 ∨ 65 ≤ x.toNat ∧ 90 < x.toNat) with hu | ⟨hu, hu'⟩
        · have hI1 : ¬ (65 : Int) ≤ x.toNat := by omega
          clear hup Ht
          go_wp2_with fail
          exact ⟨Hfin.out, by simp [intOf]; omega⟩
        · have hI1 : (65 : Int) ≤ x.toNat := by omega
          have hI2 : ¬ (x.toNat : Int) ≤ 90 := by omega
          clear hup Ht
          go_wp2_with fail
          exact ⟨Hfin.out, by simp [intOf]; omega⟩
    · obtain rfl : i = s.size := by omega
      have ht := Ht.out
      rw [← toL_len, lowTo_all] at ht
      have hst := ht.string
      rw [lowN_length, toL_len] at hst
      clear ht Ht
      go_wp2_with fail
      go_ret
      exact ⟨rfl, HB.out⟩
end Go.Proofs.YtdmladdpbdcpjaaDoor
