/-
  Any files are packed into the archive that the reference says: the law ArkPacks. (Printed by wip/ark/genpl.py, wip/abexp.py.)
-/
import Derived.Test.YtdmladdpbdcpjaaDoorArkRsA
import Derived.Test.YtdmladdpbdcpjaaDoorArkRk
import Derived.Test.YtdmladdpbdcpjaaDoorArkOv
import Derived.Test.YtdmladdpbdcpjaaDoorArkH1R
namespace Go.Proofs.YtdmladdpbdcpjaaDoor
open Go.RowKit

set_option linter.unusedSimpArgs false

attribute [local go_sem] lt1 lt2 lt3 lt4 lt5 lt6

def PlPost (w : World) (e : Ending) (w' : World) : Prop := e = .returned (.bool true) ∧ Below w.heap.size w w'
theorem sumFl_in {l : List Fl} : ∀ p ∈ l, p.2.length + p.1.size ≤ sumFl l := by
  induction l with
  | nil => simp
  | cons q l ih =>
    intro p hp
    have e : sumFl (q :: l) = q.2.length + q.1.size + sumFl l := rfl
    rcases List.mem_cons.1 hp with rfl | hp
    · omega
    · have := ih p hp; omega
def PlRel (w1 : World) (gr n : Nat) (iv : Value) (wr : World) : Prop := ∃ i, i ≤ n ∧ iv = .int .i64 (i : Nat) ∧ Below w1.heap.size w1 wr ∧ (0 < n → ∃ cur, Ovr w1 gr n 0 cur wr)
def PjRel (w1 : World) (gr n m : Nat) (cur : Array Value) (kv : Value) (wr : World) : Prop := ∃ k, k ≤ m ∧ kv = .int .i64 (k : Nat) ∧ Ovr w1 gr n 0 cur wr
set_option maxHeartbeats 16000000 in
set_option maxRecDepth 100000 in
theorem packs_any (w : World) (A : Option Addr) (c : Nat) (l : List Fl) (p v name : ByteArray) (hm : MaxL w) (hf : FlAt w A c l) (hsz : ∀ f ∈ l, f.1.size ≤ maxLen) :
    Calls Tryd.prog 3 #[.slice A l.length c, .agg #[.string p, .string v], .string name] w (PlPost w) := by
  have Hm := Lib.hid hm
  have Hf := Lib.hid hf
  have Hsz := Lib.hid hsz
  have hll : l.length ≤ 9223372036854775807 := by have h1 := hf.le; have h2 := hf.big; unfold maxLen at h2; omega
  clear hm hf hsz
  go_enter Tryd.func3, Tryd.ntmps3
  go_wp2_with fail
  obtain ⟨gm, hgm⟩ : ∃ gm, gm = w.heap.size := ⟨_, rfl⟩
  have hb0 : Below w.heap.size w (w.alloc (.cells #[.string p, .string v] 24)) := (Below.refl _ _).alloc (Nat.le_refl _) _
  have hM0 : (w.alloc (.cells #[.string p, .string v] 24)).heap[gm]? = some (.cells #[.string p, .string v] 24 (0, 0)) := by rw [hgm]; exact heap_alloc_new _ _
  rw [← hgm]
  generalize w.alloc (.cells #[.string p, .string v] 24) = w0 at *
  have Hb0 := Lib.hid hb0
  have HM0 := Lib.hid hM0
  clear hb0 hM0 hgm
  refine (first_any w0 (Hm.out.below Hb0.out)).mono ?_
  rintro e w1 ⟨rfl, hb⟩
  have Hb := Lib.hid (Hb0.out.trans (hb.mono Hb0.out.size))
  have HM1 := Lib.hid ((hb.block _ (lt_of_heap HM0.out)).trans HM0.out)
  clear hb HM0 Hb0
  go_wp2_with fail
  refine (few_any w1 A c l 4000 (by omega) (Hf.out.below Hb.out) Hsz.out).mono ?_
  rintro e w2 ⟨rfl, rfl⟩
  by_cases hfew : sumFl l ≤ 4000
  case neg =>
    rw [decide_eq_false hfew]
    clear hfew
    go_wp2_with fail
    go_ret
    exact ⟨rfl, Hb.out⟩
  rw [decide_eq_true hfew]
  have hmem := fun f hf => Nat.le_trans (sumFl_in (l := l) f hf) hfew
  have Hmem := Lib.hid hmem
  clear hfew hmem
  have e3 : w1.cell? ⟨gm, 0, none⟩ = some (.string p) := (blk_cells HM1.out).1 0
  have e4 : w1.cell? ⟨gm, 1, none⟩ = some (.string v) := (blk_cells HM1.out).1 1
  by_cases h1 : 110 < l.length
  · have hI : (110 : Int) < l.length := by omega
    go_wp2_with fail
    go_ret
    exact ⟨rfl, Hb.out⟩
  have hI1 : ¬ (110 : Int) < l.length := by omega
  by_cases h3 : 4000 < p.size
  · have hI : (4000 : Int) < p.size := by omega
    go_wp2_with fail
    go_ret
    exact ⟨rfl, Hb.out⟩
  have hI3 : ¬ (4000 : Int) < p.size := by omega
  by_cases h4 : 4000 < v.size
  · have hI : (4000 : Int) < v.size := by omega
    go_wp2_with fail
    go_ret
    exact ⟨rfl, Hb.out⟩
  have hI4 : ¬ (4000 : Int) < v.size := by omega
  by_cases h5 : 4000 < name.size
  · have hI : (4000 : Int) < name.size := by omega
    go_wp2_with fail
    go_ret
    exact ⟨rfl, Hb.out⟩
  have hI5 : ¬ (4000 : Int) < name.size := by omega
  have hd : ∀ f ∈ l, f.2.length ≤ 1048000 := fun f hf => by have := Hmem.out f hf; omega
  have hs : ∀ f ∈ l, f.1.size ≤ 1048576 := fun f hf => by have := Hmem.out f hf; omega
  have hd' : ∀ f ∈ l, f.2.length ≤ 1048576 := fun f hf => by have := hd f hf; omega
  have hsum : (linesOf (byName l)).length ≤ 1048000 := by
    have h6 := linesOf_len (byName l) 4000 (fun f hf => by have := Hmem.out f ((byName_perm l).mem_iff.1 hf); omega)
    rw [byName_length] at h6
    exact Nat.le_trans h6 (Nat.le_trans (Nat.mul_le_mul_right _ (show l.length ≤ 110 by omega)) (by omega))
  have HdS := Lib.hid (And.intro hd (And.intro hs (And.intro hd' hsum)))
  have Hfi := Lib.hid (files_ref w1 A c l (Hf.out.below Hb.out) (by omega) hd')
  have h1024 : l.length ≤ 1024 := by omega
  have hbig : l.length ≤ 1048576 := by omega
  have hpb : p.size ≤ 1048576 := by omega
  have hvb : v.size ≤ 1048576 := by omega
  have hnb : name.size ≤ 1048576 := by omega
  clear hd hs hd' hsum
  go_wp2_with fail
  refine Hfi.out.mono ?_
  rintro e w2 ⟨v2, rfl, hfo, hb⟩
  have Hb2 := Lib.hid (Hb.out.trans (hb.mono Hb.out.size))
  have HM2 := Lib.hid ((hb.block _ (lt_of_heap HM1.out)).trans HM1.out)
  obtain ⟨A2, c2, rfl, hf2⟩ := hfo.own.files
  have Hin := Lib.hid hf2
  clear hb hfo hf2 Hfi HM1 e3 e4
  -- Pack
  have Hp := Lib.hid (packed_any w2 A2 c2 l Hin.out (Hm.out.below Hb2.out) HdS.out.2.1 HdS.out.2.2.1 hbig)
  go_wp2_with fail
  refine Hp.out.mono ?_
  rintro e w3 ⟨v3, rfl, hown, hb⟩
  obtain ⟨Q, hQ⟩ : ∃ Q, Q = packed l (byName l) := ⟨_, rfl⟩
  obtain ⟨n1, hn1⟩ : ∃ n, n = packErr l (byName l) := ⟨_, rfl⟩
  rw [← hQ] at hown
  rw [← hn1]
  obtain ⟨A3, c3, rfl, hb3⟩ := own_bs hown
  have HB3 := Lib.hid (Hb2.out.trans (hb.mono Hb2.out.size))
  have HM3 := Lib.hid ((hb.block _ (lt_of_heap HM2.out)).trans HM2.out)
  have Hin3 := Lib.hid (Hin.out.below hb)
  have Hq3 := Lib.hid hb3
  have Hp := Lib.hid (pack_ref w3 A c l (Hf.out.below HB3.out) hbig HdS.out.2.1 (fun f hf => by have := HdS.out.2.2.1 f hf; omega))
  unfold PackPost at Hp
  rw [← hQ, ← hn1] at Hp
  clear hown hb hb3 hQ hn1 Hin HM2 Hb2
  go_wp2_with fail
  refine Hp.out.mono ?_
  rintro e w4 ⟨v4, rfl, hown, hb⟩
  obtain ⟨A4, c4, rfl, hb4⟩ := own_bs hown
  have HB4 := Lib.hid (HB3.out.trans (hb.mono HB3.out.size))
  have HM4 := Lib.hid ((hb.block _ (lt_of_heap HM3.out)).trans HM3.out)
  have Hin4 := Lib.hid (Hin3.out.below hb)
  have Hq4 := Lib.hid (Bs_below Hq3.out hb)
  have Hr4 := Lib.hid hb4
  -- H1
  have Hh := Lib.hid (h1_any w4 A2 c2 l Hin4.out (Hm.out.below HB4.out) h1024 HdS.out.2.1 HdS.out.2.2.1)
  obtain ⟨T, hT⟩ : ∃ T, T = (⟨(if namesErr [] (namesOf l) = 0 then sumOf (byName l) else []).toArray⟩ : ByteArray) := ⟨_, rfl⟩
  obtain ⟨n2, hn2⟩ : ∃ n, n = namesErr [] (namesOf l) := ⟨_, rfl⟩
  have hh2 := fun w' (h : FlAt w' A c l) => h1_ref w' A c l h h1024 HdS.out.2.1 HdS.out.1 HdS.out.2.2.2 (fun f hf => (byName_perm l).mem_iff.1 hf)
  have Hh2 := Lib.hid hh2
  unfold H1Post at Hh Hh2
  rw [← hT, ← hn2] at Hh
  have Hh2 : Hid (∀ w', FlAt w' A c l → Calls Tryd.prog 16 #[.slice A l.length c] w' fun e w'' => e = .returned (.tuple #[.string T, .int .i64 (n2 : Nat)]) ∧ Below w'.heap.size w' w'') := Lib.hid fun w' h => by rw [hT, hn2]; exact Hh2.out w' h
  clear hown hb hb4 Hin3 Hq3 HM3 HB3 Hp hT hn2 hh2
  go_wp2_with fail
  refine Hh.out.mono ?_
  rintro e w5 ⟨rfl, hb⟩
  have HB5 := Lib.hid (HB4.out.trans (hb.mono HB4.out.size))
  have HM5 := Lib.hid ((hb.block _ (lt_of_heap HM4.out)).trans HM4.out)
  have Hin5 := Lib.hid (Hin4.out.below hb)
  have Hq5 := Lib.hid (Bs_below Hq4.out hb)
  have Hr5 := Lib.hid (Bs_below Hr4.out hb)
  clear hb Hin4 Hq4 Hr4 HM4 HB4 Hh
  go_wp2_with fail
  refine (Hh2.out w5 (Hf.out.below HB5.out)).mono ?_
  rintro e w6 ⟨rfl, hb⟩
  have HB6 := Lib.hid (HB5.out.trans (hb.mono HB5.out.size))
  have HM6 := Lib.hid ((hb.block _ (lt_of_heap HM5.out)).trans HM5.out)
  have Hin6 := Lib.hid (Hin5.out.below hb)
  have Hq6 := Lib.hid (Bs_below Hq5.out hb)
  have Hr6 := Lib.hid (Bs_below Hr5.out hb)
  have e3 : w6.cell? ⟨gm, 0, none⟩ = some (.string p) := (blk_cells HM6.out).1 0
  have e4 : w6.cell? ⟨gm, 1, none⟩ = some (.string v) := (blk_cells HM6.out).1 1
  clear hb Hin5 Hq5 Hr5 HM5 HB5 Hh2
  -- Strip
  obtain ⟨X, hX⟩ : ∃ X, X = spOut (preOf p v) l := ⟨_, rfl⟩
  obtain ⟨n3, hn3⟩ : ∃ n, n = spErr (preOf p v) l := ⟨_, rfl⟩
  have hst := (strip_any w6 A2 c2 l p v Hin6.out hbig hpb hvb HdS.out.2.1 HdS.out.2.2.1).mono fun _ _ h => sq_of h
  unfold SqPost at hst
  rw [← hX, ← hn3] at hst
  have Hst := Lib.hid hst
  have Hst2 : Hid (∀ w', FlAt w' A c l → Calls Tryd.prog 18 #[.slice A l.length c, .agg #[.string p, .string v]] w' fun e w'' => ∃ x, e = .returned (.tuple #[x, .int .i64 (n3 : Nat)]) ∧ FlOwn w'' w'.heap.size x X ∧ Below w'.heap.size w' w'') := Lib.hid fun w' h => by
    rw [hX, hn3]
    exact strip_ref w' A c l p v h hbig hpb hvb HdS.out.2.1 HdS.out.2.2.1
  clear hst hX hn3
  go_wp2_with fail
  refine Hst.out.mono ?_
  rintro e w7 ⟨v7, rfl, hfo, hb⟩
  obtain ⟨A7, c7, rfl, hf7⟩ := hfo.files
  have HB7 := Lib.hid (HB6.out.trans (hb.mono HB6.out.size))
  have HM7 := Lib.hid ((hb.block _ (lt_of_heap HM6.out)).trans HM6.out)
  have Hin7 := Lib.hid (Hin6.out.below hb)
  have Hq7 := Lib.hid (Bs_below Hq6.out hb)
  have Hr7 := Lib.hid (Bs_below Hr6.out hb)
  have Hx7 := Lib.hid hf7
  clear e3 e4
  have e3 : w7.cell? ⟨gm, 0, none⟩ = some (.string p) := (blk_cells HM7.out).1 0
  have e4 : w7.cell? ⟨gm, 1, none⟩ = some (.string v) := (blk_cells HM7.out).1 1
  clear hb hfo hf7 Hin6 Hq6 Hr6 HM6 HB6 Hst
  go_wp2_with fail
  refine (Hst2.out w7 (Hf.out.below HB7.out)).mono ?_
  rintro e w8 ⟨v8, rfl, hfo, hb⟩
  obtain ⟨A8, c8, rfl, hf8⟩ := hfo.files
  have HB8 := Lib.hid (HB7.out.trans (hb.mono HB7.out.size))
  have HM8 := Lib.hid ((hb.block _ (lt_of_heap HM7.out)).trans HM7.out)
  have Hin8 := Lib.hid (Hin7.out.below hb)
  have Hq8 := Lib.hid (Bs_below Hq7.out hb)
  have Hr8 := Lib.hid (Bs_below Hr7.out hb)
  have Hx8 := Lib.hid (Hx7.out.below hb)
  have Hy8 := Lib.hid hf8
  clear e3 e4
  have e3 : w8.cell? ⟨gm, 0, none⟩ = some (.string p) := (blk_cells HM8.out).1 0
  have e4 : w8.cell? ⟨gm, 1, none⟩ = some (.string v) := (blk_cells HM8.out).1 1
  have Had := Lib.hid (add_any w8 A2 c2 l p v Hin8.out hbig hpb hvb HdS.out.2.1 HdS.out.2.2.1)
  clear hb hfo hf8 Hin7 Hq7 Hr7 HM7 HB7 Hst2 Hx7
  go_wp2_with fail
  refine Had.out.mono ?_
  rintro e w9 ⟨v9, rfl, hfm, hb⟩
  obtain ⟨L, hL⟩ : ∃ L, L = l.map (addP p v) := ⟨_, rfl⟩
  have hLl : L.length = l.length := by rw [hL, List.length_map]
  rw [← hL] at hfm
  obtain ⟨A9, c9, rfl, hf9⟩ := hfm.own.files
  have HB9 := Lib.hid (HB8.out.trans (hb.mono HB8.out.size))
  have HW9 := Lib.hid hb
  have HM9 := Lib.hid ((hb.block _ (lt_of_heap HM8.out)).trans HM8.out)
  have Hin9 := Hin8
  have Hq9 := Lib.hid (Bs_below Hq8.out hb)
  have Hr9 := Lib.hid (Bs_below Hr8.out hb)
  have Hx9 := Lib.hid (Hx8.out.below hb)
  have Hy9 := Lib.hid (Hy8.out.below hb)
  have Hfm := Lib.hid hfm
  have HL := Lib.hid hL
  have HLl := Lib.hid hLl
  clear e3 e4 hb hfm hf9 hL hLl Hq8 Hr8 Hx8 Hy8 Had Hin8
  -- the same?
  have Hsb := Lib.hid (same_any Q Q A3 A4 c3 c4 w9 Hq9.out Hr9.out)
  rw [beq_self_eq_true] at Hsb
  go_wp2_with fail
  refine Hsb.out.mono ?_
  rintro e w10 ⟨rfl, nd, rfl⟩
  have Hsf := Lib.hid (samef_any X X A7 A8 c7 c8 (w9.drewN nd) (Hx9.out.keep fun _ _ h => h) (Hy9.out.keep fun _ _ h => h))
  rw [decide_eq_true rfl] at Hsf
  clear Hsb Hq9 Hr9
  go_wp2_with fail
  refine Hsf.out.mono ?_
  rintro e w11 ⟨rfl, nd2, rfl⟩
  have HB11 : Hid (Below w8.heap.size w8 ((w9.drewN nd).drewN nd2)) := Lib.hid ⟨HW9.out.os, HW9.out.tape, HW9.out.output, HW9.out.size, HW9.out.block⟩
  have HM11 : Hid (((w9.drewN nd).drewN nd2).heap[gm]? = some (.cells #[.string p, .string v] 24 (0, 0))) := HM9
  have Hfm11 : Hid (FlM ((w9.drewN nd).drewN nd2) w8.heap.size (.slice A9 L.length c9) L) := Lib.hid (by
    obtain ⟨cs7, k1, k2⟩ := Hfm.out
    exact ⟨cs7, k1.mono fun _ _ h => h.keep fun _ _ h => h, own_keep k2 fun _ _ h => h⟩)
  generalize (w9.drewN nd).drewN nd2 = wq at *
  clear Hsf Hx9 Hy9 Hfm HW9 HB9 HM9
  have e3 : wq.cell? ⟨gm, 0, none⟩ = some (.string p) := (blk_cells HM11.out).1 0
  have e4 : wq.cell? ⟨gm, 1, none⟩ = some (.string v) := (blk_cells HM11.out).1 1
  have Har := Lib.hid (add_ref wq A c l p v (Hf.out.below (HB8.out.trans (HB11.out.mono HB8.out.size))) hbig hpb hvb HdS.out.2.1 HdS.out.2.2.1)
  unfold ArfPost at Har
  rw [← HL.out] at Har
  go_wp2_with fail
  refine Har.out.mono ?_
  rintro e w12 ⟨v12, rfl, hfo, hb⟩
  obtain ⟨A12, c12, rfl, hf12⟩ := hfo.files
  have HB12 := Lib.hid (HB11.out.trans (hb.mono HB11.out.size))
  have HM12 := Lib.hid ((hb.block _ (lt_of_heap HM11.out)).trans HM11.out)
  have hfm12 : FlM w12 w8.heap.size (.slice A9 L.length c9) L := by
    obtain ⟨cs7, k1, k2⟩ := Hfm11.out
    exact ⟨cs7, k1.mono fun _ _ h => h.keep (Bytes8.of_below hb), own_keep k2 fun k cur h => (hb.block k (lt_of_heap h)).trans h⟩
  obtain ⟨A9', c9', he9, hf9⟩ := hfm12.own.files
  simp only [Value.slice.injEq, true_and] at he9
  obtain ⟨rfl, rfl⟩ := he9
  have Hsf := Lib.hid (samef_any L L A9 A12 c9 c12 w12 hf9 hf12)
  rw [decide_eq_true rfl] at Hsf
  have Hfm12 := Lib.hid hfm12
  clear hfo hb hf12 hfm12 hf9 Hfm11 HB11 HM11 Har e3 e4
  go_wp2_with fail
  refine Hsf.out.mono ?_
  rintro e w13 ⟨rfl, nd3, rfl⟩
  have HB5 : Hid (Below w8.heap.size w8 (w12.drewN nd3)) := Lib.hid ⟨HB12.out.os, HB12.out.tape, HB12.out.output, HB12.out.size, HB12.out.block⟩
  have HO : Hid (0 < L.length → A9 = some ⟨ovBlk A9, 0, none⟩ ∧ ∃ cur, Ovr w8 (ovBlk A9) L.length 0 cur (w12.drewN nd3)) := Lib.hid fun hpos => by
    obtain ⟨cs7, k1, k2⟩ := Hfm12.out
    obtain ⟨g, cap, hv⟩ := own_atv k2 hpos
    simp only [Value.slice.injEq, true_and] at hv
    obtain ⟨rfl, rfl⟩ := hv
    exact ⟨rfl, Ovr.made (w1 := w8) (w := w12.drewN nd3) ⟨cs7, k1.mono fun _ _ h => h.keep fun _ _ h => h, own_keep k2 fun _ _ h => h⟩ rfl HB5.out⟩
  have H0 : Hid (PlRel w8 (ovBlk A9) L.length (.int .i64 0) (w12.drewN nd3)) := Lib.hid ⟨0, by omega, rfl, HB5.out, fun h => (HO.out h).2⟩
  have HA : Hid (0 < L.length → A9 = some ⟨ovBlk A9, 0, none⟩) := Lib.hid fun h => (HO.out h).1
  have hNl : L.length ≤ 1048576 := by have := HLl.out; omega
  clear Hsf HO HB5 Hfm12 HB12 HM12 HLl HL
  obtain ⟨N, hN⟩ : ∃ N, N = L.length := ⟨_, rfl⟩
  rw [← hN] at H0 HA hNl ⊢
  clear hN
  obtain ⟨gr, hgr⟩ : ∃ g, g = ovBlk A9 := ⟨_, rfl⟩
  rw [← hgr] at H0 HA
  clear hgr
  go_wp2_with fail
  go_loopw [24, 25] (fun iv _ wr => PlRel w8 gr N iv wr) (fun iv _ _ => N - (intOf iv).toNat)
  case atStart => exact H0.out
  case round =>
    clear H0
    obtain ⟨i, hi, rfl, hB, hov⟩ := hrel
    have hir : (0 : Int) ≤ i := by omega
    by_cases hlt : i < N
    · have hlI : (i : Int) < N := by omega
      obtain rfl := HA.out (by omega)
      obtain ⟨cur, ho⟩ := hov (by omega)
      obtain ⟨g, m, bs, e1, e2, e3, e4, e5⟩ := ho.ent i (by omega) hlt
      have Ho := Lib.hid ho
      have He1 := Lib.hid e1
      have h00 : Hid (PjRel w8 gr N m cur (.int .i64 0) wr) := Lib.hid ⟨0, by omega, rfl, ho⟩
      clear hB hov ho e1 e2 e4 e5
      go_wp2_with fail
      go_loopw [25] (fun kv wr => PjRel w8 gr N m cur kv wr) (fun kv _ => m - (intOf kv).toNat)
      case atStart => exact h00.out
      case round =>
        clear h00 Ho
        obtain ⟨k, hk, rfl, ho⟩ := hrel
        obtain ⟨g', m', bs, e1, e2, e3', e4, e5⟩ := ho.ent i (by omega) hlt
        rw [He1.out] at e1
        cases e1
        have hkr : (0 : Int) ≤ k := by omega
        have c1 : wr.cell? ⟨gr, i * 2 + 1, none⟩ = some (.slice (some ⟨g, 0, none⟩) m m) := ((blk_cells ho.row).1 _).trans He1.out
        have Ho := Lib.hid ho
        by_cases hkl : k < m
        · have hkI : (k : Int) < m := by omega
          have c2 : wr.cell? ⟨g, k, none⟩ = bs[k]? := (blk_cells e4).1 k
          rw [Array.getElem?_eq_getElem (by omega)] at c2
          have c3 : wr.frozen? ⟨g, k, none⟩ = false := (blk_cells e4).2.1 k
          have HN : Hid (PjRel w8 gr N m cur (.int .i64 ((k : Int) + 1)) (wr.setCell ⟨g, k, none⟩ (.int .u8 1))) := Lib.hid ⟨k + 1, by omega, by simp, ho.put e2 e4 k _⟩
          clear ho e4
          go_wp2_with fail
          exact ⟨HN.out, by simp only [intOf]; omega⟩
        · have hkI : ¬ (k : Int) < m := by omega
          have HN : Hid (PlRel w8 gr N (.int .i64 ((i : Int) + 1)) wr) := Lib.hid ⟨i + 1, by omega, by simp, Ho.out.below, fun _ => ⟨cur, Ho.out⟩⟩
          clear ho e4 e5
          go_wp2_with fail
          exact ⟨HN.out, by simp only [intOf]; omega⟩
    · have hlI : ¬ (i : Int) < N := by omega
      have HBr := Lib.hid hB
      have HBw := Lib.hid (HB8.out.trans (hB.mono HB8.out.size))
      have HMr := Lib.hid ((hB.block _ (lt_of_heap HM8.out)).trans HM8.out)
      have HinR := Lib.hid (Hin9.out.below hB)
      clear hB hov
      go_wp2_with fail
      have HwD : Hid (Below w.heap.size w wr.drew) := Lib.hid ⟨HBw.out.os, HBw.out.tape, HBw.out.output, HBw.out.size, HBw.out.block⟩
      have C1 : Hid (wr.drew.cell? ⟨gm, 0, none⟩ = some (.string p)) := Lib.hid ((blk_cells HMr.out).1 0)
      have C2 : Hid (wr.drew.cell? ⟨gm, 1, none⟩ = some (.string v)) := Lib.hid ((blk_cells HMr.out).1 1)
      have HinD : Hid (FlAt wr.drew A2 c2 l) := Lib.hid (HinR.out.keep fun _ _ h => h)
      have Hsf := Lib.hid (samef_any l l A2 A c2 c wr.drew HinD.out (Hf.out.below HwD.out))
      rw [decide_eq_true rfl] at Hsf
      have Hva := Lib.hid (fun w' => valid_any w' name hnb)
      have Hvr := Lib.hid (fun w' => valid_ref w' name hnb)
      obtain ⟨vn, hvn⟩ : ∃ b, b = validName (toL name) := ⟨_, rfl⟩
      unfold ValidPost at Hva Hvr
      rw [← hvn] at Hva Hvr
      obtain ⟨PR, hPR⟩ : ∃ X, X = preOf p v := ⟨_, rfl⟩
      have Hpa := Lib.hid (fun w' => prefixm_any w' p v hpb hvb)
      have Hpr := Lib.hid (fun w' => prefix_ref w' p v hpb hvb)
      rw [← hPR] at Hpa Hpr
      clear hvn hPR HinR HMr HBw HBr
      with_reducible refine g_mixy [(0, 0), (1, 0), (2, 0), (4, 0), (3, 2), (5, 0), (6, 0), (7, 0), (8, 0), (9, 0), (10, 0), (11, 0), (12, 0), (13, 0), (15, 0), (14, 2), (16, 0), (17, 0), (18, 0), (19, 0), (21, 0), (20, 2), (22, 0), (23, 0), (24, 0), (25, 0), (26, 0), (27, 2), (28, 0), (29, 0), (30, 0), (32, 0), (31, 2), (33, 2), (34, 0), (35, 0), (36, 0), (37, 0), (39, 0), (38, 2), (40, 2), (41, 0), (42, 0), (43, 0)] (fun w' => w'.cell? ⟨gm, 0, none⟩ = some (.string p) ∧ w'.cell? ⟨gm, 1, none⟩ = some (.string v)) (by kernel_rfl) (by kernel_rfl) ?_ ?_
      · exact ⟨C1.out, C2.out⟩
      intro OPS HDD
      have HD1 : (OPS[1]?).bind (·.dst) = some 134 := HDD 1
      have HD7 : (OPS[7]?).bind (·.dst) = some 140 := HDD 7
      have HD12 : (OPS[12]?).bind (·.dst) = some 145 := HDD 12
      have HD18 : (OPS[18]?).bind (·.dst) = some 151 := HDD 18
      have HD24 : (OPS[24]?).bind (·.dst) = some 157 := HDD 24
      have HD29 : (OPS[29]?).bind (·.dst) = some 162 := HDD 29
      have HD36 : (OPS[36]?).bind (·.dst) = some 169 := HDD 36
      simp only [mixX, nthO, consX]
      iterate 2 ((with_reducible refine x_val (v := ?_) ?_ ?_ ?_); rotate_left; (rintro _ _; go_simp; first | done | rfl | (constructor <;> rfl)); exact ⟨C1.out, C2.out⟩)
      have HD := HD1
      iterate 2 ((with_reducible refine x_valg (v := ?_) HD ?_ ?_ ?_ ?_); rotate_left; go_simp; (rintro _ _; go_simp; first | done | rfl | (constructor <;> rfl)); exact ⟨C1.out, C2.out⟩)
      with_reducible refine x_one ?_
      refine l_onceg HD (by go_simp) ?_
      refine l_call ?_ ((num_any (n1 : Nat) wr.drew).mono ?_)
      · go_simp
      rintro e w14 ⟨rfl, rfl⟩
      refine ⟨_, rfl, ?_⟩
      refine x_keep ⟨C1.out, C2.out⟩ ?_
      iterate 1 ((with_reducible refine x_valg (v := ?_) HD ?_ ?_ ?_ ?_); rotate_left; go_simp; (rintro _ _; go_simp; first | done | rfl | (constructor <;> rfl)); exact ⟨C1.out, C2.out⟩)
      iterate 2 ((with_reducible refine x_val (v := ?_) ?_ ?_ ?_); rotate_left; (rintro _ _; go_simp; first | done | rfl | (constructor <;> rfl)); exact ⟨C1.out, C2.out⟩)
      have HD := HD7
      iterate 3 ((with_reducible refine x_valg (v := ?_) HD ?_ ?_ ?_ ?_); rotate_left; go_simp; (rintro _ _; go_simp; first | done | rfl | (constructor <;> rfl)); exact ⟨C1.out, C2.out⟩)
      iterate 2 ((with_reducible refine x_val (v := ?_) ?_ ?_ ?_); rotate_left; (rintro _ _; go_simp; first | done | rfl | (constructor <;> rfl)); exact ⟨C1.out, C2.out⟩)
      have HD := HD12
      iterate 2 ((with_reducible refine x_valg (v := ?_) HD ?_ ?_ ?_ ?_); rotate_left; go_simp; (rintro _ _; go_simp; first | done | rfl | (constructor <;> rfl)); exact ⟨C1.out, C2.out⟩)
      with_reducible refine x_one ?_
      refine l_onceg HD (by go_simp) ?_
      refine l_call ?_ ((num_any (n2 : Nat) wr.drew).mono ?_)
      · go_simp
      rintro e w14 ⟨rfl, rfl⟩
      refine ⟨_, rfl, ?_⟩
      refine x_keep ⟨C1.out, C2.out⟩ ?_
      iterate 1 ((with_reducible refine x_valg (v := ?_) HD ?_ ?_ ?_ ?_); rotate_left; go_simp; (rintro _ _; go_simp; first | done | rfl | (constructor <;> rfl)); exact ⟨C1.out, C2.out⟩)
      iterate 2 ((with_reducible refine x_val (v := ?_) ?_ ?_ ?_); rotate_left; (rintro _ _; go_simp; first | done | rfl | (constructor <;> rfl)); exact ⟨C1.out, C2.out⟩)
      have HD := HD18
      iterate 2 ((with_reducible refine x_valg (v := ?_) HD ?_ ?_ ?_ ?_); rotate_left; go_simp; (rintro _ _; go_simp; first | done | rfl | (constructor <;> rfl)); exact ⟨C1.out, C2.out⟩)
      with_reducible refine x_one ?_
      refine l_onceg HD (by go_simp) ?_
      refine l_call ?_ ((num_any (n3 : Nat) wr.drew).mono ?_)
      · go_simp
      rintro e w14 ⟨rfl, rfl⟩
      refine ⟨_, rfl, ?_⟩
      refine x_keep ⟨C1.out, C2.out⟩ ?_
      iterate 1 ((with_reducible refine x_valg (v := ?_) HD ?_ ?_ ?_ ?_); rotate_left; go_simp; (rintro _ _; go_simp; first | done | rfl | (constructor <;> rfl)); exact ⟨C1.out, C2.out⟩)
      iterate 2 ((with_reducible refine x_val (v := ?_) ?_ ?_ ?_); rotate_left; (rintro _ _; go_simp; first | done | rfl | (constructor <;> rfl)); exact ⟨C1.out, C2.out⟩)
      have HD := HD24
      iterate 2 ((with_reducible refine x_valg (v := ?_) HD ?_ ?_ ?_ ?_); rotate_left; go_simp; (rintro _ _; go_simp; first | done | rfl | (constructor <;> rfl)); exact ⟨C1.out, C2.out⟩)
      with_reducible refine x_one ?_
      refine l_onceg HD (by go_simp) ?_
      refine l_call ?_ (Hsf.out.mono ?_)
      · go_simp
      rintro e w14 ⟨rfl, nd4, rfl⟩
      have HwE : Hid (Below w.heap.size w (wr.drew.drewN nd4)) := Lib.hid ⟨HwD.out.os, HwD.out.tape, HwD.out.output, HwD.out.size, HwD.out.block⟩
      have D1 : Hid ((wr.drew.drewN nd4).cell? ⟨gm, 0, none⟩ = some (.string p)) := C1
      have D2 : Hid ((wr.drew.drewN nd4).cell? ⟨gm, 1, none⟩ = some (.string v)) := C2
      generalize wr.drew.drewN nd4 = wE at *
      clear Hsf HwD C1 C2 HinD
      refine ⟨_, rfl, ?_⟩
      refine x_keep ⟨D1.out, D2.out⟩ ?_
      iterate 2 ((with_reducible refine x_val (v := ?_) ?_ ?_ ?_); rotate_left; (rintro _ _; go_simp; first | done | rfl | (constructor <;> rfl)); exact ⟨D1.out, D2.out⟩)
      have HD := HD29
      iterate 2 ((with_reducible refine x_valg (v := ?_) HD ?_ ?_ ?_ ?_); rotate_left; go_simp; (rintro _ ⟨h1, h2⟩; go_simp; first | done | rfl | (constructor <;> rfl)); exact ⟨D1.out, D2.out⟩)
      with_reducible refine x_one ?_
      refine l_onceg HD (by go_simp) ?_
      refine l_call ?_ ((Hpa.out wE).mono ?_)
      · go_simp
      rintro e w15 ⟨rfl, hb⟩
      have HwF := Lib.hid (HwE.out.trans (hb.mono HwE.out.size))
      have hc := Cells.of_below hb
      have D1 := Lib.hid (hc _ _ D1.out)
      have D2 := Lib.hid (hc _ _ D2.out)
      clear hb hc HwE
      refine ⟨_, rfl, ?_⟩
      refine x_keep ⟨D1.out, D2.out⟩ ?_
      with_reducible refine x_one ?_
      refine l_onceg HD (by go_simp) ?_
      refine l_call ?_ ((Hpr.out w15).mono ?_)
      · go_simp
      rintro e w16 ⟨rfl, hb⟩
      have HwG := Lib.hid (HwF.out.trans (hb.mono HwF.out.size))
      have hc := Cells.of_below hb
      have D1 := Lib.hid (hc _ _ D1.out)
      have D2 := Lib.hid (hc _ _ D2.out)
      clear hb hc HwF
      refine ⟨_, rfl, ?_⟩
      refine x_keep ⟨D1.out, D2.out⟩ ?_
      iterate 1 ((with_reducible refine x_valg (v := ?_) HD ?_ ?_ ?_ ?_); rotate_left; go_simp; (rintro _ _; go_simp; first | done | rfl | (constructor <;> rfl)); exact ⟨D1.out, D2.out⟩)
      iterate 2 ((with_reducible refine x_val (v := ?_) ?_ ?_ ?_); rotate_left; (rintro _ _; go_simp; first | done | rfl | (constructor <;> rfl)); exact ⟨D1.out, D2.out⟩)
      have HD := HD36
      iterate 2 ((with_reducible refine x_valg (v := ?_) HD ?_ ?_ ?_ ?_); rotate_left; go_simp; (rintro _ _; go_simp; first | done | rfl | (constructor <;> rfl)); exact ⟨D1.out, D2.out⟩)
      with_reducible refine x_one ?_
      refine l_onceg HD (by go_simp) ?_
      refine l_call ?_ ((Hva.out w16 (Hm.out.below HwG.out)).mono ?_)
      · go_simp
      rintro e w17 ⟨rfl, hb⟩
      have HwH := Lib.hid (HwG.out.trans (hb.mono HwG.out.size))
      have hc := Cells.of_below hb
      have D1 := Lib.hid (hc _ _ D1.out)
      have D2 := Lib.hid (hc _ _ D2.out)
      clear hb hc HwG
      refine ⟨_, rfl, ?_⟩
      refine x_keep ⟨D1.out, D2.out⟩ ?_
      with_reducible refine x_one ?_
      refine l_onceg HD (by go_simp) ?_
      refine l_call ?_ ((Hvr.out w17).mono ?_)
      · go_simp
      rintro e w18 ⟨rfl, hb⟩
      have HwI := Lib.hid (HwH.out.trans (hb.mono HwH.out.size))
      have hc := Cells.of_below hb
      have D1 := Lib.hid (hc _ _ D1.out)
      have D2 := Lib.hid (hc _ _ D2.out)
      clear hb hc HwH
      refine ⟨_, rfl, ?_⟩
      refine x_keep ⟨D1.out, D2.out⟩ ?_
      iterate 1 ((with_reducible refine x_valg (v := ?_) HD ?_ ?_ ?_ ?_); rotate_left; go_simp; (rintro _ _; go_simp; first | done | rfl | (constructor <;> rfl)); exact ⟨D1.out, D2.out⟩)
      iterate 2 ((with_reducible refine x_val (v := ?_) ?_ ?_ ?_); rotate_left; (rintro _ _; go_simp; first | done | rfl | (constructor <;> rfl)); exact ⟨D1.out, D2.out⟩)
      with_reducible refine x_end ?_
      simp only [Act.put, List.setIfInBounds_toArray, List.set_cons_zero, List.set_cons_succ]
      go_wp2_with fail
      go_ret
      exact ⟨rfl, HwI.out⟩
end Go.Proofs.YtdmladdpbdcpjaaDoor
