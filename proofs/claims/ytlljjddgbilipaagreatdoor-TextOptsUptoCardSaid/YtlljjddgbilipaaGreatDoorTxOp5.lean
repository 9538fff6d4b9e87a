/-
  The reference's ParseOpts.
-/
import Derived.Test.YtlljjddgbilipaaGreatDoorTxOp3
import Derived.Test.YtlljjddgbilipaaGreatDoorTxOpr
import Derived.Test.YtlljjddgbilipaaGreatDoorTxAr
import Derived.Test.YtlljjddgbilipaaGreatDoorTxWx
namespace Go.Proofs.YtlljjddgbilipaaGreatDoor
open Go.RowKit Go.Maps

set_option linter.unusedSimpArgs false

attribute [local go_sem] lt1 lt2 lt3 lt4 lt5 lt6

def zRV : List Value := ropV 0 0 0 0 0 false ⟨#[]⟩ ⟨#[]⟩ ⟨#[]⟩ (.slice none 0 0) (.slice none 0 0)
theorem zRV_one : zRV.toArray.all (·.oneCell') = true := ropV_one rfl rfl
theorem RoBox.zero (w : World) : RoBox w zRV.toArray zOpt := ⟨none, none, 0, 0, [], rfl, ⟨rfl, by simp [zOpt], by simp [zOpt], by unfold maxLen; omega, fun h => by simp [zOpt] at h⟩, ⟨rfl, by simp, by simp, by unfold maxLen; omega, fun h => by simp at h⟩, rfl⟩
def RoPost (w : World) (s : ByteArray) (e : Ending) (w' : World) : Prop := ∃ V, e = .returned (.tuple #[.agg V, .int .i64 (parseOL (toL s)).2]) ∧ RoBox w' V (parseOL (toL s)).1 ∧ Below w.heap.size w w'
theorem ro_zero {w w' : World} {s : ByteArray} {n : Int} (h : parseOL (toL s) = (zOpt, n)) (hB : Below w.heap.size w w') : RoPost w s (.returned (.tuple #[.agg zRV.toArray, .int .i64 n])) w' :=
  ⟨_, by rw [h], by rw [h]; exact RoBox.zero _, hB⟩
/-- the seven places -/
def plN : Nat → Nat
  | 0 => 1
  | 1 => 2
  | 2 => 3
  | 3 => 4
  | 4 => 5
  | 5 => 6
  | _ => 10
theorem plN_le (j : Nat) : plN j ≤ 10 := by unfold plN; split <;> omega
def placesV : List Value := [.int .i64 1, .int .i64 2, .int .i64 3, .int .i64 4, .int .i64 5, .int .i64 6, .int .i64 10]
theorem places_at {j : Nat} (h : j < 7) : placesV.toArray[j]? = some (.int .i64 (plN j : Nat)) := by
  rcases j with _ | _ | _ | _ | _ | _ | _ | j
  · rfl
  · rfl
  · rfl
  · rfl
  · rfl
  · rfl
  · rfl
  · omega
def KnowL (a : Nat → List UInt8) (j : Nat) (ok : Bool) (z : List Int) : Prop := z.length = j ∧ (ok = true → ∀ i, i < j → ∃ n, z[i]? = some n ∧ numP (a i) = some n) ∧ (ok = false → ∃ i, i < j ∧ numP (a i) = none)
theorem KnowL.next {a : Nat → List UInt8} {j : Nat} {ok : Bool} {z : List Int} (h : KnowL a j ok z) {n : Int} {is : Bool} (hn : numP (a j) = if is = true then some n else none) : KnowL a (j + 1) (ok && is) (z ++ [n]) := by
  refine ⟨by rw [List.length_append, h.1]; rfl, fun hk i hi => ?_, fun hk => ?_⟩
  · rw [Bool.and_eq_true] at hk
    by_cases hij : i = j
    · subst hij
      exact ⟨n, by rw [List.getElem?_append_right (by rw [h.1]; exact Nat.le_refl _), h.1, Nat.sub_self]; rfl, by rw [hn, if_pos hk.2]⟩
    · obtain ⟨m, h1, h2⟩ := h.2.1 hk.1 i (by omega)
      exact ⟨m, by rw [List.getElem?_append_left (by rw [h.1]; omega)]; exact h1, h2⟩
  · rcases ok with _ | _
    · obtain ⟨i, hi, h1⟩ := h.2.2 rfl
      exact ⟨i, by omega, h1⟩
    · rw [Bool.true_and] at hk
      exact ⟨j, by omega, by rw [hn, if_neg (by rw [hk]; decide)]⟩
theorem seven {z : List Int} (h : z.length = 7) : ∃ z0 z1 z2 z3 z4 z5 z6, z = [z0, z1, z2, z3, z4, z5, z6] := by
  rcases z with _ | ⟨z0, _ | ⟨z1, _ | ⟨z2, _ | ⟨z3, _ | ⟨z4, _ | ⟨z5, _ | ⟨z6, _ | ⟨z7, r⟩⟩⟩⟩⟩⟩⟩⟩ <;> simp at h
  exact ⟨z0, z1, z2, z3, z4, z5, z6, rfl⟩
theorem tail_ref6 {a1 a2 a3 a4 a5 a6 b n s k : List UInt8} {r : List (List UInt8)} (hm : ∀ t, numP k = some t → ¬ (r.length : Int) < t)
    (h : (∃ i, i < 5 ∧ numP (nth5 a1 a2 a3 a4 a5 i) = none) ∨ numP a6 = none ∨ numP k = none ∨ (∃ q, numP a6 = some q ∧ (q < 0 ∨ 1 < q)) ∨ (∃ t, numP k = some t ∧ t < 0)) : tailOW a1 a2 a3 a4 a5 a6 b n s k r = (zOpt, 6) := by
  cases hk : numP k with
  | none => exact tail_none hk
  | some t =>
    have ht := hm t hk
    by_cases h0 : t < 0
    · exact tail_range hk ht (.inl h0)
    · by_cases h6 : a6 ≠ [48] ∧ a6 ≠ [49]
      · exact tail_range hk ht (.inr h6)
      · have h6' : a6 = [48] ∨ a6 = [49] := by
          by_cases e : a6 = [48]
          · exact .inl e
          · by_cases e2 : a6 = [49]
            · exact .inr e2
            · exact absurd ⟨e, e2⟩ h6
        obtain ⟨t', rfl⟩ := Int.eq_ofNat_of_zero_le (by omega : 0 ≤ t)
        rcases h with h | h | h | ⟨q, hq, h⟩ | ⟨t2, ht2, h⟩
        · exact tail_bad hk (by omega) h6' (.inl h)
        · exact absurd (num_none h) h6
        · rw [hk] at h; cases h
        · exact absurd ((num01 hq).2 h) h6
        · rw [hk] at ht2; cases ht2; exact absurd h h0
theorem slice_lhS (A : Option Addr) (n c l h : Nat) (h1 : l ≤ h) (h2 : h ≤ c) (w : World) : (Instr.slice 25 (.slice A n c) (some (.int .i64 (l : Int))) (some (.int .i64 (h : Int))) none).run Tryz.prog w = .ok (.slice (cutA A c l) (h - l) (c - l)) w := by
  have e : Tryz.prog.elem 25 = 9 := by kernel_rfl
  have ht : Tryz.prog.underlying 25 = some (.slice (Tryz.prog.elem 25)) := by rw [e]; exact Tryz.underlying25
  obtain ⟨i0, hi0, hz0, hz1, hz2⟩ := info_parts infoStr1
  rw [run_slice_lh (w := w) (ht := ht) (kl := .i64) (kh := .i64) (h0 := by omega) (h1 := by omega) (h2 := by omega), e]
  simp [sizeOf, typeInfo, hi0, hz1, sliced, cutA]
theorem Sl.takeS {w : World} {A : Option Addr} {c n t : Nat} {xs : List Value} (h : Sl w A c n 1 xs) (ht : t ≤ n) (hA : A ≠ none) : Sl w A c t 1 (xs.take t) := by
  have h0 := h.len
  have h1 := h.le
  refine ⟨by rw [List.length_take]; omega, fun e => absurd e hA, by omega, h.big, fun hn => ?_⟩
  obtain ⟨b, o, hb, hx⟩ := h.cells (by omega)
  exact ⟨b, o, hb, fun j hj => by rw [hx j (by omega), List.getElem?_take_of_lt (by omega)]⟩
/-- the first loop -/
def RpR1 (x3 : World) (a : Nat → List UInt8) (nv gv iv : Value) (wr : World) : Prop := ∃ (j : Nat) (ok : Bool) (z : List Int), j ≤ 7 ∧ iv = .int .i64 (j : Nat) ∧ gv = .bool ok ∧ KnowL a j ok z ∧ wr.ownsRow x3.heap.size 3 1 nv z.length (iV z) ∧ Below x3.heap.size x3 wr
/-- the second loop -/
def RpR2 (x3 : World) (b o : Nat) (l : List (List UInt8)) (R : Value → List Value) (iv : Value) (wr : World) : Prop := ∃ (j : Nat) (z : List Int) (sv : Value), j ≤ l.length ∧ iv = .int .i64 ((o + j : Nat) : Int) ∧ z.length = j ∧ numsP (l.take j) = some z ∧ wr.heap[b]? = some (.cells (R sv).toArray 39 (0, 0)) ∧ wr.ownsRow x3.heap.size 3 1 sv z.length (iV z) ∧ Below x3.heap.size x3 wr
set_option maxRecDepth 100000 in
set_option maxHeartbeats 8000000 in
theorem rparseOpts_any (s : ByteArray) (hl : s.size ≤ 1048576) (w : World) : Calls Tryz.prog 7 #[.string s] w (RoPost w s) := by
  go_enter Tryz.func7, Tryz.ntmps7
  go_wp2_with fail
  refine (words_ref _ s hl).mono ?_
  rintro e x1 ⟨D, v, rfl, hown, hB1, hD⟩
  obtain ⟨A, c, rfl, hS⟩ := row_sl hown
  have Hob : Hid (∀ b o, A = some ⟨b, o, none⟩ → w.heap.size < b) := Lib.hid (fun b o h => by
    subst h
    have h := (own_blk hown b rfl).1
    simp at h
    omega)
  have hr1 : x1.heap[w.heap.size]? = some (.cells zRV.toArray 39 (0, 0)) := (hB1.block _ (by simp)).trans (heap_alloc_new _ _)
  have hBw : Below w.heap.size w x1 := ((Below.refl w.heap.size w).alloc (Nat.le_refl _) _).trans (hB1.mono (by simp))
  have hz1 : w.heap.size < x1.heap.size := lt_of_heap hr1
  have HR := Lib.hid hr1
  have HB := Lib.hid hBw
  have HS1 := Lib.hid hS
  have HD := Lib.hid hD
  have HDz : Hid (∀ p ∈ D, p.size ≤ 1048576) := Lib.hid (fun p hp => by
    have h3 := wordsOf_len (s := toL s) (x := toL p) (by rw [← hD]; exact List.mem_map.2 ⟨_, hp, rfl⟩)
    rw [toL_len, toL_len] at h3
    omega)
  have hDs : D.length ≤ 1048576 := by
    have h1 := wordsOf_count (toL s)
    rw [← hD, List.length_map, toL_len] at h1
    omega
  clear hr1 hBw hS hD hown hB1
  by_cases he : wordsErr (toL s) ≠ 0
  · have heb : (wordsErr (toL s) == 0) = false := beq_eq_false_iff_ne.2 he
    have Hp := Lib.hid (parseOL_err he)
    generalize wordsErr (toL s) = er at *
    clear he
    go_wp2_with ((with_reducible refine at_store 39 ?_); refine wpList_store_row rfl 39 _ _ rfl w.heap.size zRV.toArray rfl rfl 39 zRV.toArray HR.out sizeROpt rfl zRV_one ?_)
    refine bodyPost_ret (res_cell2 rfl _ _ w.heap.size 39 zRV.toArray (0, 0) rfl (setRow_heap _ _ _ _ _ _ HR.out) Tryz.underlying39 rfl sizeROpt) rfl ?_
    exact ro_zero Hp.out (below_row HB.out (Nat.le_refl _) _)
  have he0 : wordsErr (toL s) = 0 := Decidable.not_not.1 he
  have Hp0 := Lib.hid (parseOL_ok he0)
  rw [he0]
  clear he he0
  by_cases hD0 : D = []
  · have hz : ((D.length : Int) == 0) = true := by rw [hD0]; rfl
    have Hp : Hid (parseOL (toL s) = (zOpt, 7)) := Lib.hid (by rw [Hp0.out, ← HD.out, hD0]; rfl)
    clear hD0
    go_wp2_with ((with_reducible refine at_store 39 ?_); refine wpList_store_row rfl 39 _ _ rfl w.heap.size zRV.toArray rfl rfl 39 zRV.toArray HR.out sizeROpt rfl zRV_one ?_)
    refine bodyPost_ret (res_cell2 rfl _ _ w.heap.size 39 zRV.toArray (0, 0) rfl (setRow_heap _ _ _ _ _ _ HR.out) Tryz.underlying39 rfl sizeROpt) rfl ?_
    exact ro_zero Hp.out (below_row HB.out (Nat.le_refl _) _)
  have hDl : 0 < D.length := List.length_pos_iff.2 hD0
  obtain ⟨bw, ow, q0, hA, hq0, hc0⟩ := str_at (w := x1) (x := D) HS1.out hDl
  rw [Nat.add_zero] at hc0
  subst hA
  have hbwo := Hob.out bw ow rfl
  have hz : ((D.length : Int) == 0) = false := by rw [beq_eq_false_iff_ne]; omega
  have hlt0 : (0 : Int) < D.length := by omega
  have Hhd : Hid ((wordsOf (toL s)).head? = some (toL q0)) := Lib.hid (by
    rw [← HD.out, List.head?_map, List.head?_eq_getElem?, hq0]
    rfl)
  have Hlen : Hid ((wordsOf (toL s)).length = D.length) := Lib.hid (by rw [← HD.out, List.length_map])
  have Hq0 := Lib.hid hq0
  clear hD0 hq0
  by_cases hr : ¬ q0.toList = [115, 116, 111, 114, 121]
  · have hrb : (q0.toList == [115, 116, 111, 114, 121]) = false := beq_eq_false_iff_ne.2 hr
    have Hp : Hid (parseOL (toL s) = (zOpt, 7)) := Lib.hid (by
      rw [Hp0.out]
      refine parseOW_head (fun e => hr ?_)
      rw [Hhd.out] at e
      rw [toList_toL]
      exact Option.some.inj e)
    clear hr
    go_wp2_with ((with_reducible refine at_store 39 ?_); refine wpList_store_row rfl 39 _ _ rfl w.heap.size zRV.toArray rfl rfl 39 zRV.toArray HR.out sizeROpt rfl zRV_one ?_)
    refine bodyPost_ret (res_cell2 rfl _ _ w.heap.size 39 zRV.toArray (0, 0) rfl (setRow_heap _ _ _ _ _ _ HR.out) Tryz.underlying39 rfl sizeROpt) rfl ?_
    exact ro_zero Hp.out (below_row HB.out (Nat.le_refl _) _)
  have hr := Decidable.not_not.1 hr
  have hrb : (q0.toList == [115, 116, 111, 114, 121]) = true := by rw [hr]; rfl
  have Hst : Hid (toL q0 = storyW) := Lib.hid (by rw [← toList_toL, hr]; rfl)
  clear hr
  by_cases h11 : (D.length : Int) < 11
  · have Hp : Hid (parseOL (toL s) = (zOpt, 14)) := Lib.hid (by
      rw [Hp0.out]
      exact parseOW_short (by rw [Hhd.out, Hst.out]) (by rw [Hlen.out]; omega))
    go_wp2_with ((with_reducible refine at_store 39 ?_); refine wpList_store_row rfl 39 _ _ rfl w.heap.size zRV.toArray rfl rfl 39 zRV.toArray HR.out sizeROpt rfl zRV_one ?_)
    refine bodyPost_ret (res_cell2 rfl _ _ w.heap.size 39 zRV.toArray (0, 0) rfl (setRow_heap _ _ _ _ _ _ HR.out) Tryz.underlying39 rfl sizeROpt) rfl ?_
    exact ro_zero Hp.out (below_row HB.out (Nat.le_refl _) _)
  have hD11 : 11 ≤ D.length := by omega
  have Hword : Hid (∀ i, i < D.length → x1.cell? ⟨bw, ow + i, none⟩ = some (.string (D.getD i ⟨#[]⟩)) ∧ (D.getD i ⟨#[]⟩).size ≤ 1048576) := Lib.hid (fun i hi => by
    obtain ⟨_, _, q, hA, hq, g⟩ := str_at (w := x1) (x := D) HS1.out hi
    cases hA
    have e : D.getD i ⟨#[]⟩ = q := by rw [List.getD_eq_getElem?_getD, hq]; rfl
    rw [e]
    exact ⟨g, HDz.out q (List.mem_of_getElem? hq)⟩)
  have Htail : Hid (parseOL (toL s) = tailOW (toL (D.getD 1 ⟨#[]⟩)) (toL (D.getD 2 ⟨#[]⟩)) (toL (D.getD 3 ⟨#[]⟩)) (toL (D.getD 4 ⟨#[]⟩)) (toL (D.getD 5 ⟨#[]⟩)) (toL (D.getD 6 ⟨#[]⟩)) (toL (D.getD 7 ⟨#[]⟩)) (toL (D.getD 8 ⟨#[]⟩)) (toL (D.getD 9 ⟨#[]⟩)) (toL (D.getD 10 ⟨#[]⟩)) ((D.drop 11).map toL)) := Lib.hid (by
    have e0 : D.getD 0 ⟨#[]⟩ = q0 := by rw [List.getD_eq_getElem?_getD, Hq0.out]; rfl
    have h := congrArg (List.map toL) (eleven D hD11)
    rw [HD.out, e0] at h
    simp only [List.map_cons] at h
    rw [Hst.out] at h
    rw [Hp0.out, h, parseOW_tail])
  obtain ⟨q10, hq10⟩ : ∃ q, q = D.getD 10 ⟨#[]⟩ := ⟨_, rfl⟩
  obtain ⟨q6, hq6⟩ : ∃ q, q = D.getD 6 ⟨#[]⟩ := ⟨_, rfl⟩
  rw [← hq10, ← hq6] at Htail
  have Hq10 := Lib.hid hq10
  have Hq6 := Lib.hid hq6
  obtain ⟨iI, hiI, hzI, hsI, hbI⟩ := info_parts infoInt1
  clear hq10 hq6 Hhd Hlen Hq0 Hst Hp0
  go_wp2_with fail
  clear hz hlt0 hc0 hr hrb
  have hB13 : Below x1.heap.size x1 (x1.alloc (.cells placesV.toArray 3)) := (Below.refl x1.heap.size x1).alloc (Nat.le_refl _) _
  have hp3 : (x1.alloc (.cells placesV.toArray 3)).heap[x1.heap.size]? = some (.cells placesV.toArray 3 (0, 0)) := heap_alloc_new _ _
  have hx3 : (x1.alloc (.cells #[.int .i64 1, .int .i64 2, .int .i64 3, .int .i64 4, .int .i64 5, .int .i64 6, .int .i64 10] 3)) = (x1.alloc (.cells placesV.toArray 3)) := rfl
  rw [hx3]
  clear hx3
  generalize (x1.alloc (.cells placesV.toArray 3)) = x3 at *
  have HR3 := Lib.hid ((hB13.block _ hz1).trans HR.out)
  have HB3 := Lib.hid (HB.out.trans (hB13.mono HB.out.size))
  have Hword3 : Hid (∀ i, i < D.length → x3.cell? ⟨bw, ow + i, none⟩ = some (.string (D.getD i ⟨#[]⟩)) ∧ (D.getD i ⟨#[]⟩).size ≤ 1048576) := Lib.hid (fun i hi => ⟨(hB13.cell (World.block_lt_of_cell? x1 _ (Hword.out i hi).1)).trans (Hword.out i hi).1, (Hword.out i hi).2⟩)
  have HS3 := Lib.hid (HS1.out.keep (Cells.of_below hB13))
  have hz3 : w.heap.size < x3.heap.size := lt_of_heap HR3.out
  obtain ⟨pb, hpb⟩ : ∃ z, z = x1.heap.size := ⟨_, rfl⟩
  rw [← hpb] at hp3 ⊢
  have Hp3 := Lib.hid hp3
  have hpl := lt_of_heap hp3
  clear HR HB Hword HS1 hz1 hB13 hp3 hpb
  have HR := HR3
  have HB := HB3
  have Hword := Hword3
  clear HR3 HB3 Hword3
  go_loopw [6, 8, 9] (fun nv gv iv wr => RpR1 x3 (fun i => toL (D.getD (plN i) ⟨#[]⟩)) nv gv iv wr) (fun _ _ iv _ => 7 - (intOf iv).toNat)
  case atStart => exact ⟨0, true, [], by omega, rfl, rfl, ⟨rfl, fun _ i hi => by omega, fun h => by cases h⟩, World.ownsRow_nil _ _ _ _, Below.refl _ _⟩
  case round =>
    obtain ⟨j, ok, z, hj, rfl, rfl, hk, hown, hB⟩ := hrel
    have HK := Lib.hid hk
    have Hown := Lib.hid hown
    have HBr := Lib.hid hB
    have hzl : z.length ≤ 7 := by rw [hk.1]; exact hj
    have Hzl := Lib.hid hk.1
    obtain ⟨An, cn, hnv, hn0, hng, -, -⟩ := own_form hown
    subst hnv
    have Hng := Lib.hid (And.intro hn0 hng)
    have hxz := hB.size
    clear hk hown hB hn0 hng
    by_cases hlt : j < 7
    · have cp : wr.cell? ⟨pb, j, none⟩ = some (.int .i64 (plN j : Nat)) := (HBr.out.cell hpl).trans (((blk_cells Hp3.out).1 j).trans (places_at hlt))
      have hple := plN_le j
      obtain ⟨hcw, hqz⟩ := Hword.out (plN j) (by omega)
      have cw : wr.cell? ⟨bw, ow + plN j, none⟩ = some (.string (D.getD (plN j) ⟨#[]⟩)) := (HBr.out.cell (World.block_lt_of_cell? x3 _ hcw)).trans hcw
      obtain ⟨q, hq⟩ : ∃ q, q = D.getD (plN j) ⟨#[]⟩ := ⟨_, rfl⟩
      rw [← hq] at cw hqz
      have Hq := Lib.hid hq
      obtain ⟨m, hm⟩ : ∃ m, m = plN j := ⟨_, rfl⟩
      rw [← hm] at cp cw hple
      have hmI : (m : Int) < D.length := by omega
      have hmr : (0 : Int) ≤ m := by omega
      have hjI : (j : Int) < 7 := by omega
      have hjr : (0 : Int) ≤ j := by omega
      clear hcw hq hm
      go_wp2_with fail
      refine (number_ref q hqz wr).mono ?_
      rintro e y ⟨rfl, n', is', rfl, hn'⟩
      have Hk := Lib.hid (HK.out.next (show numP (toL (D.getD (plN j) ⟨#[]⟩)) = _ from by rw [← Hq.out]; exact hn'))
      clear hn' cp cw
      rcases Bool.eq_false_or_eq_true ok with hok | hok
      · subst hok
        go_wp2_with (at_builtin; refine wpList_append_own _ rfl (.tmp 63) (.tmp 65) 22 rfl x3.heap.size 3 iI (.int .i64 0) 1 8 Tryz.underlying22 hiI hzI hsI hbI rfl (by omega) (.slice An z.length cn) z.length (iV z) rfl (Hown.out.alloc _) ⟨wr.heap.size, 0, none⟩ 1 1 [.int .i64 n'] rfl rfl (fun j v hv => World.news_of_block (w := wr.alloc _) (heap_alloc_new wr _) j v hv) (by intro u hu; rw [List.mem_singleton.1 hu]; rfl) (by unfold maxLen; omega) (by omega) (by simp; omega) ?_)
        intro v1 wp hown1 hgrow1 _
        have Hm : Hid (RpR1 x3 (fun i => toL (D.getD (plN i) ⟨#[]⟩)) v1 (.bool _) (.int .i64 ((j : Int) + 1)) wp) := Lib.hid ⟨j + 1, _, z ++ [n'], by omega, by go_num, rfl, Hk.out, by rw [List.length_append, show iV (z ++ [n']) = iV z ++ [.int .i64 n'] by simp [iV]]; exact hown1, (HBr.out.alloc hxz _).grown hgrow1 (by simp; omega) (fun q hq => (own_blk Hown.out q hq).1)⟩
        clear hown1 hgrow1
        go_wp2_with fail
        exact ⟨Hm.out, by simp [intOf]; omega⟩
      · subst hok
        go_wp2_with (at_builtin; refine wpList_append_own _ rfl (.tmp 63) (.tmp 65) 22 rfl x3.heap.size 3 iI (.int .i64 0) 1 8 Tryz.underlying22 hiI hzI hsI hbI rfl (by omega) (.slice An z.length cn) z.length (iV z) rfl (Hown.out.alloc _) ⟨wr.heap.size, 0, none⟩ 1 1 [.int .i64 n'] rfl rfl (fun j v hv => World.news_of_block (w := wr.alloc _) (heap_alloc_new wr _) j v hv) (by intro u hu; rw [List.mem_singleton.1 hu]; rfl) (by unfold maxLen; omega) (by omega) (by simp; omega) ?_)
        intro v1 wp hown1 hgrow1 _
        have Hm : Hid (RpR1 x3 (fun i => toL (D.getD (plN i) ⟨#[]⟩)) v1 (.bool _) (.int .i64 ((j : Int) + 1)) wp) := Lib.hid ⟨j + 1, _, z ++ [n'], by omega, by go_num, rfl, Hk.out, by rw [List.length_append, show iV (z ++ [n']) = iV z ++ [.int .i64 n'] by simp [iV]]; exact hown1, (HBr.out.alloc hxz _).grown hgrow1 (by simp; omega) (fun q hq => (own_blk Hown.out q hq).1)⟩
        clear hown1 hgrow1
        go_wp2_with fail
        exact ⟨Hm.out, by simp [intOf]; omega⟩
    · have hj7 : j = 7 := by omega
      subst hj7
      obtain ⟨z0, z1, z2, z3, z4, z5, z6, rfl⟩ := seven Hzl.out
      obtain ⟨ga, hga⟩ : ∃ ga, An = some ga := by
        cases hA : An with
        | none =>
          have h := (Hng.out.1 hA).1
          simp at h
        | some a => exact ⟨a, rfl⟩
      obtain ⟨g, hg⟩ := Hng.out.2 ga hga
      subst hg
      subst hga
      have hzz : ([z0, z1, z2, z3, z4, z5, z6] : List Int).length = 7 := rfl
      rw [hzz] at Hown ⊢
      have Hcz : Hid (∀ (i : Nat) (n : Int) (y : World), ([z0, z1, z2, z3, z4, z5, z6] : List Int)[i]? = some n → Below wr.heap.size wr y → y.cell? ⟨g, i, none⟩ = some (.int .i64 n)) := Lib.hid (fun i n y hi hy => (hy.cell (World.block_lt_of_cell? wr _ (own_cell Hown.out (by simp only [iV, List.getElem?_map, hi]; rfl)))).trans (own_cell Hown.out (by simp only [iV, List.getElem?_map, hi]; rfl)))
      have HR4 := Lib.hid ((HBr.out.block _ hz3).trans HR.out)
      have HB4 := Lib.hid (HB.out.trans (HBr.out.mono HB.out.size))
      have Hword4 : Hid (∀ i, i < D.length → wr.cell? ⟨bw, ow + i, none⟩ = some (.string (D.getD i ⟨#[]⟩)) ∧ (D.getD i ⟨#[]⟩).size ≤ 1048576) := Lib.hid (fun i hi => ⟨(HBr.out.cell (World.block_lt_of_cell? x3 _ (Hword.out i hi).1)).trans (Hword.out i hi).1, (Hword.out i hi).2⟩)
      have HS4 := Lib.hid (HS3.out.keep (Cells.of_below HBr.out))
      have hz4 : w.heap.size < wr.heap.size := lt_of_heap HR4.out
      clear HR HB Hword HS3 Hng hzl Hzl hzz hj hlt hz3 hpl Hp3 hxz
      have HR := HR4
      have HB := HB4
      have Hword := Hword4
      clear HR4 HB4 Hword4 HBr
      have c10 := (Hword.out 10 (by omega)).1
      have z10 := (Hword.out 10 (by omega)).2
      rw [← Hq10.out] at c10 z10
      have hI10 : (10 : Int) < D.length := by omega
      go_wp2_with fail
      refine (number_ref q10 z10 wr).mono ?_
      rintro e y ⟨rfl, k, is, rfl, hnum⟩
      have Hnum := Lib.hid hnum
      clear hnum c10
      have hLl : ((D.drop 11).map toL).length = D.length - 11 := by rw [List.length_map, List.length_drop]
      have HLl := Lib.hid hLl
      clear hLl
      have cz : ∀ (i : Nat) (n : Int), ([z0, z1, z2, z3, z4, z5, z6] : List Int)[i]? = some n → wr.cell? ⟨g, i, none⟩ = some (.int .i64 n) := fun i n hi => Hcz.out i n wr hi (Below.refl _ _)
      have c5 := cz 5 z5 rfl
      have c6 := cz 6 z6 rfl
      clear cz
      have Hbad : Hid (ok = false → (∃ i, i < 5 ∧ numP (nth5 (toL (D.getD 1 ⟨#[]⟩)) (toL (D.getD 2 ⟨#[]⟩)) (toL (D.getD 3 ⟨#[]⟩)) (toL (D.getD 4 ⟨#[]⟩)) (toL (D.getD 5 ⟨#[]⟩)) i) = none) ∨ numP (toL q6) = none ∨ numP (toL q10) = none) := Lib.hid (fun h => by
        obtain ⟨i, hi, hn⟩ := HK.out.2.2 h
        by_cases h5 : i < 5
        · refine .inl ⟨i, h5, ?_⟩
          rw [nth5_eq D h5]
          rcases i with _ | _ | _ | _ | _ | i
          · exact hn
          · exact hn
          · exact hn
          · exact hn
          · exact hn
          · omega
        · rcases (by omega : i = 5 ∨ i = 6) with rfl | rfl
          · exact .inr (.inl (by rw [Hq6.out]; exact hn))
          · exact .inr (.inr (by rw [Hq10.out]; exact hn)))
      have Hgood : Hid (ok = true → (∀ i, i < 5 → numP (nth5 (toL (D.getD 1 ⟨#[]⟩)) (toL (D.getD 2 ⟨#[]⟩)) (toL (D.getD 3 ⟨#[]⟩)) (toL (D.getD 4 ⟨#[]⟩)) (toL (D.getD 5 ⟨#[]⟩)) i) = some (([z0, z1, z2, z3, z4, z5, z6] : List Int).getD i 0)) ∧ numP (toL q6) = some z5 ∧ numP (toL q10) = some z6) := Lib.hid (fun h => by
        have hall := HK.out.2.1 h
        refine ⟨fun i h5 => ?_, ?_, ?_⟩
        · rw [nth5_eq D h5]
          obtain ⟨n, h1, h2⟩ := hall i (by omega)
          have e : ([z0, z1, z2, z3, z4, z5, z6] : List Int).getD i 0 = n := by rw [List.getD_eq_getElem?_getD, h1]; rfl
          rw [e, ← h2]
          rcases i with _ | _ | _ | _ | _ | i
          · rfl
          · rfl
          · rfl
          · rfl
          · rfl
          · omega
        · obtain ⟨n, h1, h2⟩ := hall 5 (by omega)
          cases h1
          rw [Hq6.out]
          exact h2
        · obtain ⟨n, h1, h2⟩ := hall 6 (by omega)
          cases h1
          rw [Hq10.out]
          exact h2)
      rcases Bool.eq_false_or_eq_true is with hi | hi
      · subst hi
        have hk : numP (toL q10) = some k := Hnum.out
        have Hk := Lib.hid hk
        clear hk Hnum
        by_cases hgt : (D.length : Int) - 11 < k
        · have Hp : Hid (parseOL (toL s) = (zOpt, 14)) := Lib.hid (by rw [Htail.out]; exact tail_many Hk.out (by rw [HLl.out]; omega))
          go_wp2_with ((with_reducible refine at_store 39 ?_); refine wpList_store_row rfl 39 _ _ rfl w.heap.size zRV.toArray rfl rfl 39 zRV.toArray HR.out sizeROpt rfl zRV_one ?_)
          refine bodyPost_ret (res_cell2 rfl _ _ w.heap.size 39 zRV.toArray (0, 0) rfl (setRow_heap _ _ _ _ _ _ HR.out) Tryz.underlying39 rfl sizeROpt) rfl ?_
          exact ro_zero Hp.out (below_row HB.out (Nat.le_refl _) _)
        · have Hmany : Hid (∀ t, numP (toL q10) = some t → ¬ (((D.drop 11).map toL).length : Int) < t) := Lib.hid (fun t ht => by
            rw [Hk.out] at ht
            cases ht
            rw [HLl.out]
            omega)
          rcases Bool.eq_false_or_eq_true ok with hok | hok
          · subst hok
            obtain ⟨hg5, hg6, hg7⟩ := Hgood.out rfl
            have hkz : k = z6 := by rw [Hk.out] at hg7; exact Option.some.inj hg7
            subst hkz
            have Hg5 := Lib.hid hg5
            have Hg6 := Lib.hid hg6
            clear hg5 hg6 hg7
            by_cases h50 : z5 < 0
            · have Hp : Hid (parseOL (toL s) = (zOpt, 6)) := Lib.hid (by rw [Htail.out]; exact tail_ref6 Hmany.out (.inr (.inr (.inr (.inl ⟨z5, Hg6.out, .inl h50⟩)))))
              go_wp2_with ((with_reducible refine at_store 39 ?_); refine wpList_store_row rfl 39 _ _ rfl w.heap.size zRV.toArray rfl rfl 39 zRV.toArray HR.out sizeROpt rfl zRV_one ?_)
              refine bodyPost_ret (res_cell2 rfl _ _ w.heap.size 39 zRV.toArray (0, 0) rfl (setRow_heap _ _ _ _ _ _ HR.out) Tryz.underlying39 rfl sizeROpt) rfl ?_
              exact ro_zero Hp.out (below_row HB.out (Nat.le_refl _) _)
            · by_cases h51 : (1 : Int) < z5
              · have Hp : Hid (parseOL (toL s) = (zOpt, 6)) := Lib.hid (by rw [Htail.out]; exact tail_ref6 Hmany.out (.inr (.inr (.inr (.inl ⟨z5, Hg6.out, .inr h51⟩)))))
                go_wp2_with ((with_reducible refine at_store 39 ?_); refine wpList_store_row rfl 39 _ _ rfl w.heap.size zRV.toArray rfl rfl 39 zRV.toArray HR.out sizeROpt rfl zRV_one ?_)
                refine bodyPost_ret (res_cell2 rfl _ _ w.heap.size 39 zRV.toArray (0, 0) rfl (setRow_heap _ _ _ _ _ _ HR.out) Tryz.underlying39 rfl sizeROpt) rfl ?_
                exact ro_zero Hp.out (below_row HB.out (Nat.le_refl _) _)
              · by_cases hk0 : k < 0
                · have Hp : Hid (parseOL (toL s) = (zOpt, 6)) := Lib.hid (by rw [Htail.out]; exact tail_ref6 Hmany.out (.inr (.inr (.inr (.inr ⟨k, Hk.out, hk0⟩)))))
                  go_wp2_with ((with_reducible refine at_store 39 ?_); refine wpList_store_row rfl 39 _ _ rfl w.heap.size zRV.toArray rfl rfl 39 zRV.toArray HR.out sizeROpt rfl zRV_one ?_)
                  refine bodyPost_ret (res_cell2 rfl _ _ w.heap.size 39 zRV.toArray (0, 0) rfl (setRow_heap _ _ _ _ _ _ HR.out) Tryz.underlying39 rfl sizeROpt) rfl ?_
                  exact ro_zero Hp.out (below_row HB.out (Nat.le_refl _) _)
                · obtain ⟨t, rfl⟩ := Int.eq_ofNat_of_zero_le (by omega : 0 ≤ k)
                  have htn : t ≤ D.length - 11 := by omega
                  obtain ⟨q7, hq7⟩ : ∃ q, q = D.getD 7 ⟨#[]⟩ := ⟨_, rfl⟩
                  obtain ⟨q8, hq8⟩ : ∃ q, q = D.getD 8 ⟨#[]⟩ := ⟨_, rfl⟩
                  obtain ⟨q9, hq9⟩ : ∃ q, q = D.getD 9 ⟨#[]⟩ := ⟨_, rfl⟩
                  have Hqs := Lib.hid (And.intro hq7 (And.intro hq8 hq9))
                  obtain ⟨A2, hA2⟩ : ∃ z, z = cutA (some ⟨bw, ow, none⟩) c 11 := ⟨_, rfl⟩
                  obtain ⟨c2, hc2⟩ : ∃ z, z = c - 11 := ⟨_, rfl⟩
                  have HA2b : Hid (∀ bb ob, A2 = some ⟨bb, ob, none⟩ → bb = bw) := Lib.hid (fun bb ob h => by
                    rw [hA2] at h
                    unfold cutA at h
                    split at h
                    · cases h; rfl
                    · simp only [Option.map_some, Option.some.injEq] at h
                      have := congrArg Addr.block h
                      simp only [Addr.add] at this
                      exact this.symm)
                  have hA2n : A2 ≠ none := by rw [hA2]; unfold cutA; split <;> simp
                  have hcle := HS4.out.le
                  have hlh : ∀ w', (Instr.slice 25 (.slice (some ⟨bw, ow, none⟩) D.length c) (some (.int .i64 11)) (some (.int .i64 (11 + (t : Int)))) none).run Tryz.prog w' = .ok (.slice A2 t c2) w' := fun w' => by
                    have h := slice_lhS (some ⟨bw, ow, none⟩) D.length c 11 (11 + t) (by omega) (by omega) w'
                    rw [show 11 + t - 11 = t by omega, ← hA2, ← hc2, show ((11 + t : Nat) : Int) = 11 + (t : Int) by omega] at h
                    exact h
                  have HSA : Hid (Sl wr A2 c2 t 1 (txs ((D.drop 11).take t))) := Lib.hid (by
                    have h := (HS4.out.dropS (l := 11) hD11).takeS (t := t) htn (by rw [← hA2]; exact hA2n)
                    rw [← hA2, ← hc2, txs_drop, txs_take] at h
                    exact h)
                  obtain ⟨E, hE⟩ : ∃ E, E = ((D.drop 11).map toL).drop t := ⟨_, rfl⟩
                  obtain ⟨m, hm⟩ : ∃ m, m = D.length - 11 - t := ⟨_, rfl⟩
                  have hEl : E.length = m := by rw [hE, List.length_drop, HLl.out, hm]
                  have HE := Lib.hid hE
                  have HEl := Lib.hid hEl
                  have hNm : 11 + t + m = D.length := by omega
                  have hmz : m ≤ 1048576 := by omega
                  have HNm := Lib.hid hNm
                  have Htn := Lib.hid htn
                  clear hA2 hc2 hA2n hcle hE hm hEl hq7 hq8 hq9
                  go_wp2_with fail
                  have hBd : Below wr.heap.size wr wr.drew := ⟨rfl, rfl, rfl, Nat.le_refl _, fun _ _ => rfl⟩
                  have a0 := Hcz.out 0 z0 _ rfl hBd
                  have a1 := Hcz.out 1 z1 _ rfl hBd
                  have a2 := Hcz.out 2 z2 _ rfl hBd
                  have a3 := Hcz.out 3 z3 _ rfl hBd
                  have a4 := Hcz.out 4 z4 _ rfl hBd
                  have a5 := Hcz.out 5 z5 _ rfl hBd
                  have a6 := Hcz.out 6 (t : Int) _ rfl hBd
                  have a7 : wr.drew.cell? ⟨bw, ow + 7, none⟩ = some (.string q7) := by rw [Hqs.out.1]; exact (Hword.out 7 (by omega)).1
                  have a8 : wr.drew.cell? ⟨bw, ow + 8, none⟩ = some (.string q8) := by rw [Hqs.out.2.1]; exact (Hword.out 8 (by omega)).1
                  have a9 : wr.drew.cell? ⟨bw, ow + 9, none⟩ = some (.string q9) := by rw [Hqs.out.2.2]; exact (Hword.out 9 (by omega)).1
                  have hI7 : (7 : Int) < D.length := by omega
                  have hI8 : (8 : Int) < D.length := by omega
                  have hI9 : (9 : Int) < D.length := by omega
                  have htw : IntKind.i64.wrap (11 + (t : Int)) = 11 + (t : Int) := by rw [IntKind.wrap_i64]; omega
                  clear hBd
                  with_reducible refine g_mixx [(0, 1), (1, 1), (2, 0), (3, 1), (4, 1), (5, 0), (6, 1), (7, 1), (8, 0), (9, 1), (10, 1), (11, 0), (12, 1), (13, 1), (14, 0), (15, 1), (16, 1), (17, 0), (18, 1), (19, 1), (20, 1), (21, 0), (22, 1), (23, 1), (24, 0), (25, 1), (26, 1), (27, 0), (28, 1), (29, 1), (30, 1), (31, 0), (32, 1), (33, 1), (34, 1), (35, 2), (36, 3)] (fun w' => (w'.cell? ⟨g, 0, none⟩ = some (.int .i64 z0) ∧ w'.cell? ⟨g, 1, none⟩ = some (.int .i64 z1) ∧ w'.cell? ⟨g, 2, none⟩ = some (.int .i64 z2) ∧ w'.cell? ⟨g, 3, none⟩ = some (.int .i64 z3) ∧ w'.cell? ⟨g, 4, none⟩ = some (.int .i64 z4)) ∧ (w'.cell? ⟨g, 5, none⟩ = some (.int .i64 z5) ∧ w'.cell? ⟨g, 6, none⟩ = some (.int .i64 (t : Int)) ∧ w'.cell? ⟨bw, ow + 7, none⟩ = some (.string q7) ∧ w'.cell? ⟨bw, ow + 8, none⟩ = some (.string q8) ∧ w'.cell? ⟨bw, ow + 9, none⟩ = some (.string q9))) 0 _ rfl (by kernel_rfl) (by kernel_rfl) ?_ ?_
                  · exact ⟨⟨a0, a1, a2, a3, a4⟩, a5, a6, a7, a8, a9⟩
                  intro OPS HD0
                  simp only [mixX, nthO, consX]
                  iterate 2 ((with_reducible refine x_any (v := ?_) ?_ ?_); rotate_left; (rintro _; go_simp; first | done | rfl | (constructor <;> rfl)))
                  iterate 1 ((with_reducible refine x_val (v := ?_) ?_ ?_ ?_); rotate_left; (rintro _ ⟨⟨h0, h1, h2, h3, h4⟩, h5, h6, h7, h8, h9⟩; go_simp; first | done | rfl | (constructor <;> rfl)); exact ⟨⟨a0, a1, a2, a3, a4⟩, a5, a6, a7, a8, a9⟩)
                  iterate 2 ((with_reducible refine x_any (v := ?_) ?_ ?_); rotate_left; (rintro _; go_simp; first | done | rfl | (constructor <;> rfl)))
                  iterate 1 ((with_reducible refine x_val (v := ?_) ?_ ?_ ?_); rotate_left; (rintro _ ⟨⟨h0, h1, h2, h3, h4⟩, h5, h6, h7, h8, h9⟩; go_simp; first | done | rfl | (constructor <;> rfl)); exact ⟨⟨a0, a1, a2, a3, a4⟩, a5, a6, a7, a8, a9⟩)
                  iterate 2 ((with_reducible refine x_any (v := ?_) ?_ ?_); rotate_left; (rintro _; go_simp; first | done | rfl | (constructor <;> rfl)))
                  iterate 1 ((with_reducible refine x_val (v := ?_) ?_ ?_ ?_); rotate_left; (rintro _ ⟨⟨h0, h1, h2, h3, h4⟩, h5, h6, h7, h8, h9⟩; go_simp; first | done | rfl | (constructor <;> rfl)); exact ⟨⟨a0, a1, a2, a3, a4⟩, a5, a6, a7, a8, a9⟩)
                  iterate 2 ((with_reducible refine x_any (v := ?_) ?_ ?_); rotate_left; (rintro _; go_simp; first | done | rfl | (constructor <;> rfl)))
                  iterate 1 ((with_reducible refine x_val (v := ?_) ?_ ?_ ?_); rotate_left; (rintro _ ⟨⟨h0, h1, h2, h3, h4⟩, h5, h6, h7, h8, h9⟩; go_simp; first | done | rfl | (constructor <;> rfl)); exact ⟨⟨a0, a1, a2, a3, a4⟩, a5, a6, a7, a8, a9⟩)
                  iterate 2 ((with_reducible refine x_any (v := ?_) ?_ ?_); rotate_left; (rintro _; go_simp; first | done | rfl | (constructor <;> rfl)))
                  iterate 1 ((with_reducible refine x_val (v := ?_) ?_ ?_ ?_); rotate_left; (rintro _ ⟨⟨h0, h1, h2, h3, h4⟩, h5, h6, h7, h8, h9⟩; go_simp; first | done | rfl | (constructor <;> rfl)); exact ⟨⟨a0, a1, a2, a3, a4⟩, a5, a6, a7, a8, a9⟩)
                  iterate 2 ((with_reducible refine x_any (v := ?_) ?_ ?_); rotate_left; (rintro _; go_simp; first | done | rfl | (constructor <;> rfl)))
                  iterate 1 ((with_reducible refine x_val (v := ?_) ?_ ?_ ?_); rotate_left; (rintro _ ⟨⟨h0, h1, h2, h3, h4⟩, h5, h6, h7, h8, h9⟩; go_simp; first | done | rfl | (constructor <;> rfl)); exact ⟨⟨a0, a1, a2, a3, a4⟩, a5, a6, a7, a8, a9⟩)
                  iterate 3 ((with_reducible refine x_any (v := ?_) ?_ ?_); rotate_left; (rintro _; go_simp; first | done | rfl | (constructor <;> rfl)))
                  iterate 1 ((with_reducible refine x_val (v := ?_) ?_ ?_ ?_); rotate_left; (rintro _ ⟨⟨h0, h1, h2, h3, h4⟩, h5, h6, h7, h8, h9⟩; go_simp; first | done | rfl | (constructor <;> rfl)); exact ⟨⟨a0, a1, a2, a3, a4⟩, a5, a6, a7, a8, a9⟩)
                  iterate 2 ((with_reducible refine x_any (v := ?_) ?_ ?_); rotate_left; (rintro _; go_simp; first | done | rfl | (constructor <;> rfl)))
                  iterate 1 ((with_reducible refine x_val (v := ?_) ?_ ?_ ?_); rotate_left; (rintro _ ⟨⟨h0, h1, h2, h3, h4⟩, h5, h6, h7, h8, h9⟩; go_simp; first | done | rfl | (constructor <;> rfl)); exact ⟨⟨a0, a1, a2, a3, a4⟩, a5, a6, a7, a8, a9⟩)
                  iterate 2 ((with_reducible refine x_any (v := ?_) ?_ ?_); rotate_left; (rintro _; go_simp; first | done | rfl | (constructor <;> rfl)))
                  iterate 1 ((with_reducible refine x_val (v := ?_) ?_ ?_ ?_); rotate_left; (rintro _ ⟨⟨h0, h1, h2, h3, h4⟩, h5, h6, h7, h8, h9⟩; go_simp; first | done | rfl | (constructor <;> rfl)); exact ⟨⟨a0, a1, a2, a3, a4⟩, a5, a6, a7, a8, a9⟩)
                  iterate 3 ((with_reducible refine x_any (v := ?_) ?_ ?_); rotate_left; (rintro _; go_simp; first | done | rfl | (constructor <;> rfl)))
                  iterate 1 ((with_reducible refine x_val (v := ?_) ?_ ?_ ?_); rotate_left; (rintro _ ⟨⟨h0, h1, h2, h3, h4⟩, h5, h6, h7, h8, h9⟩; go_simp; first | done | rfl | (constructor <;> rfl)); exact ⟨⟨a0, a1, a2, a3, a4⟩, a5, a6, a7, a8, a9⟩)
                  iterate 1 ((with_reducible refine x_any (v := ?_) ?_ ?_); rotate_left; (rintro _; go_simp; first | done | rfl | (constructor <;> rfl)))
                  with_reducible refine x_any (v := .slice A2 t c2) (fun wy => ?_) ?_
                  · have hq := hlh wy
                    go_simp
                  iterate 1 ((with_reducible refine x_any (v := ?_) ?_ ?_); rotate_left; (rintro _; go_simp; first | done | rfl | (constructor <;> rfl)))
                  with_reducible refine x_one ?_
                  iterate 1 (with_reducible refine l_val (v := ?_) (w' := ?_) ?_ ?_; rotate_left 2; (go_simp; first | done | rfl | (constructor <;> rfl)))
                  refine x_keep ⟨⟨Cells.alloc _ _ _ _ a0, Cells.alloc _ _ _ _ a1, Cells.alloc _ _ _ _ a2, Cells.alloc _ _ _ _ a3, Cells.alloc _ _ _ _ a4⟩, Cells.alloc _ _ _ _ a5, Cells.alloc _ _ _ _ a6, Cells.alloc _ _ _ _ a7, Cells.alloc _ _ _ _ a8, Cells.alloc _ _ _ _ a9⟩ ?_
                  have hza : (wr.drew.alloc (.cells zRV.toArray 39)).heap[wr.heap.size]? = some (.cells zRV.toArray 39 (0, 0)) := heap_alloc_new wr.drew _
                  with_reducible refine x_three ?_
                  refine wpList_store_row rfl 39 _ _ rfl wr.heap.size (ropV z0 z1 z2 z3 z4 (z5 == 1) q7 q8 q9 (.slice A2 t c2) (.slice none 0 0)).toArray (by simp [Act.eval, Act.put]) (by simp [Act.eval, Act.put, ropV]) 39 zRV.toArray hza sizeROpt rfl (ropV_one rfl rfl) ?_
                  have hxb : Below wr.heap.size wr ((wr.drew.alloc (.cells zRV.toArray 39)).setRow wr.heap.size (ropV z0 z1 z2 z3 z4 (z5 == 1) q7 q8 q9 (.slice A2 t c2) (.slice none 0 0)).toArray) := below_row ((show Below wr.heap.size wr wr.drew from ⟨rfl, rfl, rfl, Nat.le_refl _, fun _ _ => rfl⟩).alloc (Nat.le_refl _) _) (Nat.le_refl _) _
                  have hrb : ((wr.drew.alloc (.cells zRV.toArray 39)).setRow wr.heap.size (ropV z0 z1 z2 z3 z4 (z5 == 1) q7 q8 q9 (.slice A2 t c2) (.slice none 0 0)).toArray).heap[wr.heap.size]? = some (.cells (ropV z0 z1 z2 z3 z4 (z5 == 1) q7 q8 q9 (.slice A2 t c2) (.slice none 0 0)).toArray 39 (0, 0)) := setRow_heap _ _ _ _ _ _ hza
                  have hx5 : (((wr.alloc (.cells #[.int .i64 0, .int .i64 0, .int .i64 0, .int .i64 0, .int .i64 0, .bool false, .string ⟨#[]⟩, .string ⟨#[]⟩, .string ⟨#[]⟩, .slice none 0 0, .slice none 0 0] 39)).drew).setRow wr.heap.size (ropV z0 z1 z2 z3 z4 (z5 == 1) q7 q8 q9 (.slice A2 t c2) (.slice none 0 0)).toArray) = ((wr.drew.alloc (.cells zRV.toArray 39)).setRow wr.heap.size (ropV z0 z1 z2 z3 z4 (z5 == 1) q7 q8 q9 (.slice A2 t c2) (.slice none 0 0)).toArray) := rfl
                  with_reducible refine x_last ?_
                  with_reducible refine x_end ?_
                  simp only [Act.put, List.setIfInBounds_toArray, List.set_cons_zero, List.set_cons_succ]
                  rw [hx5]
                  clear hx5
                  generalize ((wr.drew.alloc (.cells zRV.toArray 39)).setRow wr.heap.size (ropV z0 z1 z2 z3 z4 (z5 == 1) q7 q8 q9 (.slice A2 t c2) (.slice none 0 0)).toArray) = x5 at *
                  obtain ⟨b, hb⟩ : ∃ b, b = wr.heap.size := ⟨_, rfl⟩
                  rw [← hb] at hrb ⊢
                  have hbx : wr.heap.size ≤ b := by omega
                  have c65 : x5.cell? ⟨g, 6, none⟩ = some (.int .i64 (t : Int)) := Hcz.out 6 _ _ rfl hxb
                  have HRb := Lib.hid hrb
                  have HXb := Lib.hid hxb
                  clear hrb hxb hza a0 a1 a2 a3 a4 a5 a6 a7 a8 a9 hlh HD0 hb c5 c6
                  have H01 : Hid ((toL q6 = [48] ∨ toL q6 = [49]) ∧ decide (toL q6 = [49]) = (z5 == 1)) := Lib.hid ⟨by
                    by_cases e : toL q6 = [48]
                    · exact .inl e
                    · by_cases e2 : toL q6 = [49]
                      · exact .inr e2
                      · have := (num01 Hg6.out).1 ⟨e, e2⟩
                        omega, by rw [num1 Hg6.out]; rfl⟩
                  go_wp2_with fail
                  clear c65
                  obtain ⟨wa, hwa⟩ : ∃ wa, wa = wr := ⟨_, rfl⟩
                  subst hwa
                  go_loopw [15] (fun iv wr => RpR2 wa b (11 + t) E (fun sv => ropV z0 z1 z2 z3 z4 (z5 == 1) q7 q8 q9 (.slice A2 t c2) sv) iv wr) (fun iv _ => D.length - (intOf iv).toNat)
                  case atStart => exact ⟨0, [], .slice none 0 0, by omega, by go_num, rfl, rfl, HRb.out, World.ownsRow_nil _ _ _ _, HXb.out⟩
                  case round =>
                    clear HRb HXb
                    obtain ⟨j, z, sv, hj, rfl, hzl, hnz, hb, hown, hB⟩ := hrel
                    rw [HEl.out] at hj
                    have Hzl := Lib.hid hzl
                    have Hnz := Lib.hid hnz
                    have Hb := Lib.hid hb
                    have Hown := Lib.hid hown
                    have HBr := Lib.hid hB
                    have hzm : z.length ≤ 1048576 := by omega
                    have hqz := hB.size
                    have HRq := Lib.hid ((hB.block _ hz4).trans HR.out)
                    have HBq := Lib.hid (HB.out.trans (hB.mono HB.out.size))
                    clear hzl hnz hb hown hB
                    obtain ⟨N, hN⟩ : ∃ N, N = 11 + t + j := ⟨_, rfl⟩
                    rw [← hN]
                    have HN := Lib.hid hN
                    have hNle : N ≤ D.length := by omega
                    by_cases hlt : j < m
                    · have hNl : N < D.length := by omega
                      obtain ⟨hcw, hqs⟩ := Hword.out N hNl
                      have cw : wr.cell? ⟨bw, ow + N, none⟩ = some (.string (D.getD N ⟨#[]⟩)) := (HBr.out.cell (World.block_lt_of_cell? wa _ hcw)).trans hcw
                      obtain ⟨q, hq⟩ : ∃ q, q = D.getD N ⟨#[]⟩ := ⟨_, rfl⟩
                      rw [← hq] at cw hqs
                      have Hlj : Hid (E[j]? = some (toL q)) := Lib.hid (by
                        rw [HE.out, List.getElem?_drop, List.getElem?_map, List.getElem?_drop, hq, show 11 + (t + j) = N by omega, List.getD_eq_getElem?_getD, List.getElem?_eq_getElem hNl]
                        rfl)
                      have hNI : (N : Int) < D.length := by omega
                      have hNr : (0 : Int) ≤ N := by omega
                      have hj1 : j + 1 ≤ m := by omega
                      clear hcw hq hN hNm
                      go_wp2_with fail
                      refine (number_ref q hqs wr).mono ?_
                      rintro e y ⟨rfl, n', is', rfl, hn'⟩
                      have Hn' := Lib.hid hn'
                      clear hn' cw
                      rcases Bool.eq_false_or_eq_true is' with hi | hi
                      · subst hi
                        have Hnx : Hid (numsP (E.take (j + 1)) = some (z ++ [n'])) := Lib.hid (by rw [take_snoc Hlj.out, numsP_snoc, Hnz.out, Hn'.out]; rfl)
                        have c1 : wr.cell? ⟨b, 10, none⟩ = some sv := (blk_cells Hb.out).1 10
                        obtain ⟨Asv, csv, hsv, -, -, -, -⟩ := own_form Hown.out
                        subst hsv
                        have hfin : ∀ v1 wp, wp.ownsRow wa.heap.size 3 1 v1 (z.length + 1) (iV z ++ [.int .i64 n']) → (wr.alloc (.cells #[.int .i64 n'] 3)).grownBy wp (Value.slice Asv z.length csv).ownBlock → (wp.cell? ⟨b, 10, none⟩ = some (.slice Asv z.length csv) ∧ wp.frozen? ⟨b, 10, none⟩ = false) ∧ RpR2 wa b (11 + t) E (fun sv => ropV z0 z1 z2 z3 z4 (z5 == 1) q7 q8 q9 (.slice A2 t c2) sv) (.int .i64 ((N : Int) + 1)) (wp.setCell ⟨b, 10, none⟩ v1) := fun v1 wp ho hg => by
                          have hb5 : wp.heap[b]? = some (.cells (ropV z0 z1 z2 z3 z4 (z5 == 1) q7 q8 q9 (.slice A2 t c2) (.slice Asv z.length csv)).toArray 39 (0, 0)) := by
                            refine (hg.block b (by simp; have := lt_of_heap Hb.out; omega) (fun e => ?_)).trans ((Below.heap_alloc _ _ _ (lt_of_heap Hb.out)).trans Hb.out)
                            obtain ⟨_, cur, hcur⟩ := own_blk Hown.out b e.symm
                            rw [Hb.out] at hcur
                            cases hcur
                          have hB5 : Below wa.heap.size wa wp := (HBr.out.alloc hqz (.cells #[.int .i64 n'] 3)).grown hg (by simp; omega) (fun q hq => (own_blk Hown.out q hq).1)
                          have hfr := Fr.setCell [b] wp ⟨b, 10, none⟩ v1 (by simp)
                          refine ⟨⟨(blk_cells hb5).1 10, (blk_cells hb5).2.1 10⟩, j + 1, z ++ [n'], v1, by rw [HEl.out]; exact hj1, by rw [HN.out]; go_num, by rw [List.length_append, Hzl.out]; rfl, Hnx.out, ?_, ?_, hB5.trans (hfr.below hB5.size (by intro k hk; rw [List.mem_singleton.1 hk]; exact hbx))⟩
                          · rw [heap_setCell_at hb5]
                            rfl
                          · rw [List.length_append, show iV (z ++ [n']) = iV z ++ [.int .i64 n'] by simp [iV]]
                            refine own_keep ho fun q c hq => ?_
                            refine (hfr.block q (lt_of_heap hq) (fun hh => ?_)).trans hq
                            rw [List.mem_singleton.1 hh, hb5] at hq
                            cases hq
                        have Hfin := Lib.hid hfin
                        clear hfin Hnx
                        go_wp2_with (at_builtin; refine wpList_append_own _ rfl (.tmp 161) (.tmp 163) 22 rfl wa.heap.size 3 iI (.int .i64 0) 1 8 Tryz.underlying22 hiI hzI hsI hbI rfl (by omega) (.slice Asv z.length csv) z.length (iV z) rfl (Hown.out.alloc _) ⟨wr.heap.size, 0, none⟩ 1 1 [.int .i64 n'] rfl rfl (fun j v hv => World.news_of_block (w := wr.alloc _) (heap_alloc_new wr _) j v hv) (by intro u hu; rw [List.mem_singleton.1 hu]; rfl) (by unfold maxLen; omega) (by omega) (by simp; omega) ?_)
                        intro v1 wp hown1 hgrow1 _
                        obtain ⟨⟨k1, k2⟩, hm⟩ := Hfin.out v1 wp hown1 hgrow1
                        obtain ⟨Av1, cv1, rfl, -, -, -, -⟩ := own_form hown1
                        have Hm := Lib.hid hm
                        clear hm hown1 hgrow1 Hfin
                        go_wp2_with fail
                        first
                          | exact ⟨Hm.out, by simp [intOf]; omega⟩
                          | (refine ⟨?_, by simp [intOf]; omega⟩; simp only [exists_and_left]; exact ⟨_, _, Hm.out, by simp⟩)
                      · subst hi
                        have Hp : Hid (parseOL (toL s) = (zOpt, 6)) := Lib.hid (by
                          rw [Htail.out]
                          refine tail_bad Hk.out (by rw [HLl.out]; exact Htn.out) H01.out.1 (.inr ?_)
                          rw [← HE.out]
                          refine numsP_take_none (j := j + 1) ?_
                          rw [take_snoc Hlj.out, numsP_snoc, Hnz.out, Hn'.out]
                          rfl)
                        clear HR HB
                        have HR := HRq
                        have HB := HBq
                        clear HRq HBq
                        go_wp2_with ((with_reducible refine at_store 39 ?_); refine wpList_store_row rfl 39 _ _ rfl w.heap.size zRV.toArray rfl rfl 39 zRV.toArray HR.out sizeROpt rfl zRV_one ?_)
                        refine bodyPost_ret (res_cell2 rfl _ _ w.heap.size 39 zRV.toArray (0, 0) rfl (setRow_heap _ _ _ _ _ _ HR.out) Tryz.underlying39 rfl sizeROpt) rfl ?_
                        exact ro_zero Hp.out (below_row HB.out (Nat.le_refl _) _)
                    · have hjm : j = m := by omega
                      have hNI : ¬ (N : Int) < D.length := by omega
                      have hK : numsP E = some z := by
                        have h := Hnz.out
                        rwa [List.take_of_length_le (by rw [HEl.out, hjm]; exact Nat.le_refl _)] at h
                      have HK2 := Lib.hid hK
                      have hsvo : sv.oneCell' = true := by
                        obtain ⟨Asv, csv, rfl, -, -, -, -⟩ := own_form Hown.out
                        rfl
                      have hz5 : (ropV z0 z1 z2 z3 z4 (z5 == 1) q7 q8 q9 (.slice A2 t c2) sv).toArray.all (·.oneCell') = true := ropV_one rfl hsvo
                      have hz6 : (Tryz.prog.info? 39).map (·.size) = some (ropV z0 z1 z2 z3 z4 (z5 == 1) q7 q8 q9 (.slice A2 t c2) sv).toArray.size := sizeROpt
                      have hz7 : zRV.toArray.size = (ropV z0 z1 z2 z3 z4 (z5 == 1) q7 q8 q9 (.slice A2 t c2) sv).toArray.size := rfl
                      obtain ⟨VV, hVV⟩ : ∃ VV, VV = (ropV z0 z1 z2 z3 z4 (z5 == 1) q7 q8 q9 (.slice A2 t c2) sv).toArray := ⟨_, rfl⟩
                      have hb9 := Hb.out
                      simp only at hb9
                      rw [← hVV] at hz5 hz6 hz7 hb9
                      have HVV := Lib.hid hVV
                      have Hz5 := Lib.hid hz5
                      have Hz6 := Lib.hid hz6
                      have Hz7 := Lib.hid hz7
                      have HVb := Lib.hid hb9
                      clear hVV hz5 hz6 hz7 hsvo hb9 hK hN hNm hlt
                      go_wp2_with (first
                        | ((with_reducible refine at_load 39 ?_); refine wpList_load_row rfl 39 _ rfl b rfl 39 VV (0, 0) _ HVb.out Tryz.underlying39 rfl Hz6.out ?_)
                        | ((with_reducible refine at_store 39 ?_); refine wpList_store_row rfl 39 _ _ rfl w.heap.size VV rfl rfl 39 zRV.toArray HRq.out Hz6.out Hz7.out Hz5.out ?_))
                      refine bodyPost_ret (res_cell2 rfl _ _ w.heap.size 39 VV (0, 0) rfl (setRow_heap _ _ _ _ _ _ HRq.out) Tryz.underlying39 rfl Hz6.out) rfl ?_
                      have hbt : ∀ (k : Nat) (cs : Array Value) (ty : TypeId) (fr : Nat × Nat), ty ≠ 39 → wr.heap[k]? = some (.cells cs ty fr) → (wr.setRow w.heap.size VV).heap[k]? = some (.cells cs ty fr) := fun k cs ty fr hty hk => by
                        rw [setRow_other _ _ _ _ (by
                          rintro rfl
                          rw [HRq.out] at hk
                          cases hk
                          exact hty rfl)]
                        exact hk
                      have Hp : parseOL (toL s) = (⟨z0, z1, z2, z3, z4, z5 == 1, toL q7, toL q8, toL q9, ((D.drop 11).map toL).take t, z⟩, 0) := by
                        rw [Htail.out, tail_good (x := fun i => ([z0, z1, z2, z3, z4, z5, (t : Int)] : List Int).getD i 0) (z := z) Hk.out (by rw [HLl.out]; exact Htn.out) H01.out.1 Hg5.out (by rw [← HE.out]; exact HK2.out), H01.out.2, Hqs.out.1, Hqs.out.2.1, Hqs.out.2.2]
                        rfl
                      obtain ⟨A1, c1, hsv, hS1⟩ := row_sl (own_keep (w' := wr.setRow w.heap.size VV) Hown.out fun q cs hq => hbt q cs _ _ (by decide) hq)
                      have hTl : ((D.drop 11).take t).length = t := by rw [List.length_take, List.length_drop]; have := Htn.out; omega
                      have hS9 : Sl (wr.setRow w.heap.size VV) A2 c2 t 1 (txs ((D.drop 11).take t)) := by
                        have h := HSA.out
                        refine ⟨h.len, h.nil, h.le, h.big, fun hn => ?_⟩
                        obtain ⟨bb, ob, hA, hx⟩ := h.cells hn
                        refine ⟨bb, ob, hA, fun j hj => ?_⟩
                        have hlen := h.len
                        have hc := hx j hj
                        rw [List.getElem?_eq_getElem (by omega)] at hc ⊢
                        have hcq := (HBr.out.cell (World.block_lt_of_cell? wa _ hc)).trans hc
                        have hbb := HA2b.out bb ob hA
                        exact (World.cell?_of_block (setRow_other _ _ _ _ (by simp only; omega))).trans hcq
                      refine ⟨VV, by rw [Hp]; rfl, ?_, below_row HBq.out (Nat.le_refl _) _⟩
                      rw [Hp]
                      refine ⟨A1, A2, c1, c2, (D.drop 11).take t, ?_, hS1, by rw [hTl]; exact hS9, by simp only; rw [List.map_take]⟩
                      rw [HVV.out, hTl, hsv]
                      simp only [mkS_toL, iV_length]
          · subst hok
            have Hp : Hid (parseOL (toL s) = (zOpt, 6)) := Lib.hid (by
              rw [Htail.out]
              refine tail_ref6 Hmany.out ?_
              rcases Hbad.out rfl with h | h | h
              · exact .inl h
              · exact .inr (.inl h)
              · exact .inr (.inr (.inl h)))
            go_wp2_with ((with_reducible refine at_store 39 ?_); refine wpList_store_row rfl 39 _ _ rfl w.heap.size zRV.toArray rfl rfl 39 zRV.toArray HR.out sizeROpt rfl zRV_one ?_)
            refine bodyPost_ret (res_cell2 rfl _ _ w.heap.size 39 zRV.toArray (0, 0) rfl (setRow_heap _ _ _ _ _ _ HR.out) Tryz.underlying39 rfl sizeROpt) rfl ?_
            exact ro_zero Hp.out (below_row HB.out (Nat.le_refl _) _)
      · subst hi
        have hk : numP (toL q10) = none := Hnum.out
        have hok : ok = false := by
          rcases Bool.eq_false_or_eq_true ok with h | h
          · have := (Hgood.out h).2.2
            rw [hk] at this
            cases this
          · exact h
        subst hok
        have Hp : Hid (parseOL (toL s) = (zOpt, 6)) := Lib.hid (by rw [Htail.out]; exact tail_none hk)
        clear hk Hnum
        go_wp2_with ((with_reducible refine at_store 39 ?_); refine wpList_store_row rfl 39 _ _ rfl w.heap.size zRV.toArray rfl rfl 39 zRV.toArray HR.out sizeROpt rfl zRV_one ?_)
        refine bodyPost_ret (res_cell2 rfl _ _ w.heap.size 39 zRV.toArray (0, 0) rfl (setRow_heap _ _ _ _ _ _ HR.out) Tryz.underlying39 rfl sizeROpt) rfl ?_
        exact ro_zero Hp.out (below_row HB.out (Nat.le_refl _) _)
end Go.Proofs.YtlljjddgbilipaaGreatDoor
