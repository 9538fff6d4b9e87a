/-
  text.ParseSold: what a line says is sold.
-/
import Derived.Test.YtbmnbhammganfaaDoorTxFl
import Derived.Test.YtbmnbhammganfaaDoorTxAbF
import Derived.Test.YtbmnbhammganfaaDoorH4
namespace Go.Proofs.YtbmnbhammganfaaDoor
open Go.RowKit Go.Maps

set_option linter.unusedSimpArgs false

attribute [local go_sem] lt1 lt2 lt3 lt4 lt5 lt6

def sellW : List UInt8 := [115, 101, 108, 108]
def soldErrW (ws : List (List UInt8)) : Int := if ws.head? ≠ some sellW then 7 else if ws.length < 4 ∨ ws.length % 2 = 1 then 14 else 0
def soldErr (s : List UInt8) : Int := if wordsErr s ≠ 0 then wordsErr s else soldErrW (wordsOf s)
theorem soldErr_err {s : List UInt8} (h : wordsErr s ≠ 0) : soldErr s = wordsErr s := by unfold soldErr; rw [if_pos h]
theorem soldErr_ok {s : List UInt8} (h : wordsErr s = 0) : soldErr s = soldErrW (wordsOf s) := by unfold soldErr; rw [if_neg (by rw [h]; decide)]
def filesB : List ByteArray → List Fl
  | a :: b :: r => (a, toL b) :: filesB r
  | _ => []
theorem filesB_len : ∀ (l : List ByteArray), (filesB l).length = l.length / 2
  | [] => rfl
  | [_] => by simp [filesB]
  | a :: b :: r => by rw [filesB, List.length_cons, filesB_len r]; simp; omega
theorem filesB_at : ∀ (l : List ByteArray) (j : Nat) (a b : ByteArray), l[2 * j]? = some a → l[2 * j + 1]? = some b → (filesB l)[j]? = some (a, toL b)
  | [], j, a, b, h, _ => by simp at h
  | [x], 0, a, b, _, h => by simp at h
  | [x], j + 1, a, b, h, _ => by simp [Nat.mul_succ] at h
  | x :: y :: r, 0, a, b, h1, h2 => by simp at h1 h2; simp [filesB, h1, h2]
  | x :: y :: r, j + 1, a, b, h1, h2 => by
    rw [show 2 * (j + 1) = 2 * j + 1 + 1 by omega, List.getElem?_cons_succ, List.getElem?_cons_succ] at h1
    rw [show 2 * (j + 1) + 1 = 2 * j + 1 + 1 + 1 by omega, List.getElem?_cons_succ, List.getElem?_cons_succ] at h2
    rw [filesB, List.getElem?_cons_succ]
    exact filesB_at r j a b h1 h2
structure SoldD where
  path : ByteArray
  ver : ByteArray
  man : List UInt8
  files : List Fl
def zSold : SoldD := ⟨⟨#[]⟩, ⟨#[]⟩, [], []⟩
def soldOf (D : List ByteArray) : SoldD := ⟨D.getD 1 ⟨#[]⟩, D.getD 2 ⟨#[]⟩, toL (D.getD 3 ⟨#[]⟩), filesB (D.drop 4)⟩
def sV (p v : ByteArray) (mv fv : Value) : List Value := [.string p, .string v, mv, fv]
def SoBox (w : World) (V : Array Value) (d : SoldD) : Prop := ∃ A c AF cF, V = (sV d.path d.ver (.slice A d.man.length c) (.slice AF d.files.length cF)).toArray ∧ Bs w A c d.man ∧ FlAt w AF cF d.files
theorem sizeSold : (Tryd.prog.info? 60).map (·.size) = some 4 := by kernel_rfl
theorem sV_one {p v : ByteArray} {mv fv : Value} (h1 : mv.oneCell' = true) (h2 : fv.oneCell' = true) : (sV p v mv fv).toArray.all (·.oneCell') = true := all_oneCell_toArray (by
  intro u hu
  simp only [sV, List.mem_cons, List.not_mem_nil, or_false] at hu
  rcases hu with rfl | rfl | rfl | rfl <;> first | rfl | exact h1 | exact h2)
theorem SoBox.zero (w : World) : SoBox w (sV ⟨#[]⟩ ⟨#[]⟩ nilV nilV).toArray zSold := ⟨none, 0, none, 0, rfl, Bs.none_ w, ⟨fun _ => ⟨rfl, rfl⟩, Nat.le_refl _, by unfold maxLen; omega, fun h => by simp [zSold] at h⟩⟩
def PsPost (w : World) (s : ByteArray) (e : Ending) (w' : World) : Prop := ∃ V d, e = .returned (.tuple #[.agg V, .int .i64 (soldErr (toL s))]) ∧ SoBox w' V d ∧ Below w.heap.size w w' ∧ (soldErr (toL s) = 0 → ∃ D : List ByteArray, D.map toL = wordsOf (toL s) ∧ d = soldOf D) ∧ (soldErr (toL s) ≠ 0 → d = zSold)
theorem ps_zero {w w' : World} {s : ByteArray} {n : Int} (h : soldErr (toL s) = n) (h0 : n ≠ 0) (hB : Below w.heap.size w w') : PsPost w s (.returned (.tuple #[.agg (sV ⟨#[]⟩ ⟨#[]⟩ nilV nilV).toArray, .int .i64 n])) w' :=
  ⟨_, zSold, by rw [h], SoBox.zero _, hB, fun e => absurd (h.symm.trans e) h0, fun _ => rfl⟩
/-! ### files whose bytes lie in blocks of bytes -/
def Byt (w w' : World) : Prop := ∀ (k : Nat) (cur : Array Value) (fr : Nat × Nat), w.heap[k]? = some (.cells cur 5 fr) → w'.heap[k]? = some (.cells cur 5 fr)
theorem Byt.trans {a b c : World} (h : Byt a b) (k : Byt b c) : Byt a c := fun i cur fr hi => k i cur fr (h i cur fr hi)
theorem Byt.of_below {w w' : World} (h : Below w.heap.size w w') : Byt w w' := fun k _ _ hk => (h.block k (lt_of_heap hk)).trans hk
theorem Byt.of_grown {w w' : World} {base : Nat} {v : Value} {n k : Nat} {xs : List Value} (h : w.grownBy w' v.ownBlock) (ho : w.ownsRow base 67 k v n xs) : Byt w w' := fun i cur fr hi => by
  refine (h.block _ (lt_of_heap hi) fun e => ?_).trans hi
  obtain ⟨_, cur', hcur⟩ := own_blk ho _ e.symm
  rw [hi] at hcur
  simp at hcur
theorem Byt.of_fr {w w' : World} {b : Nat} {cs : Array Value} {t : TypeId} (h : Fr [b] w w') (hb : w.heap[b]? = some (.cells cs t (0, 0))) (ht : t ≠ 5) : Byt w w' := fun k cur fr hk => by
  refine (h.block k (lt_of_heap hk) fun hh => ?_).trans hk
  rw [List.mem_singleton.1 hh, hb] at hk
  cases hk
  exact ht rfl
def DatB (w : World) (v : Value) (l : List UInt8) : Prop := ∃ A c, v = .slice A l.length c ∧ Bs w A c l ∧ ∀ a, A = some a → ∃ cur fr, w.heap[a.block]? = some (.cells cur 5 fr)
theorem DatB.keep {w w' : World} {v : Value} {l : List UInt8} (h : DatB w v l) (hb : Byt w w') : DatB w' v l := by
  obtain ⟨A, c, h1, h2, h3⟩ := h
  refine ⟨A, c, h1, ⟨h2.len, h2.nil, h2.le, h2.big, fun hn => ?_⟩, fun a ha => ?_⟩
  · obtain ⟨b, o, rfl, hx⟩ := h2.cells hn
    obtain ⟨cur, fr, hk⟩ := h3 _ rfl
    have hkk : w'.heap[b]? = w.heap[b]? := (hb _ _ _ hk).trans hk.symm
    exact ⟨b, o, rfl, fun j hj => (World.cell?_of_block hkk).trans (hx j hj)⟩
  · obtain ⟨cur, fr, hk⟩ := h3 a ha
    exact ⟨cur, fr, hb _ _ _ hk⟩
theorem bytes_datB (w : World) (x : ByteArray) (hx : x.size ≤ 1048576) : ∃ v w', (convert 9 24 (.string x)).run Tryd.prog w = .ok v w' ∧ DatB w' v (toL x) ∧ Below w.heap.size w w' ∧ v.oneCell' = true := by
  refine ⟨_, _, Lib.run_convert_string_bytes w 9 24 5 x Tryd.underlying9 Tryd.underlying24 Tryd.underlying5, ⟨_, _, by rw [toL_len], ⟨by simp [u8s], by simp, ?_, ?_, fun hn => ⟨_, 0, rfl, fun j hj => ?_⟩⟩, by intro a ha; cases ha; exact ⟨_, _, Lib.bytesWorld_at_new w _ x⟩⟩, ⟨rfl, rfl, rfl, by rw [Lib.bytesWorld_size]; omega, fun j hj => Lib.bytesWorld_at_old w _ x j hj⟩, rfl⟩
  · rw [toL_len]
    exact grownCap_ge _ _ _ _
  · exact grownCap_le_maxLen _ _ _ _ (by unfold maxLen; omega)
  · rw [Nat.zero_add, Lib.bytesWorld_cell w _ x j (by rw [toL_len] at hj; omega), u8s_at (by omega)]
    rfl
def CFb (w : World) (c : List Value) (p : Fl) : Prop := ∃ dv, c = [.string p.1, dv] ∧ DatB w dv p.2
theorem CFb.keep {w w' : World} {c : List Value} {p : Fl} (h : CFb w c p) (hb : Byt w w') : CFb w' c p := by
  obtain ⟨dv, h1, h2⟩ := h
  exact ⟨dv, h1, h2.keep hb⟩
theorem CFb.cfl {w : World} {c : List Value} {p : Fl} (h : CFb w c p) : CFl w c p := by
  obtain ⟨dv, rfl, A, ci, rfl, h2, _⟩ := h
  exact ⟨A, ci, rfl, h2⟩
theorem one_file {s : ByteArray} {dv : Value} (h : dv.oneCell' = true) : ∀ v ∈ [Value.string s, dv], v.oneCell' = true := by
  intro v hv
  simp only [List.mem_cons, List.not_mem_nil, or_false] at hv
  rcases hv with rfl | rfl
  · rfl
  · exact h
theorem wordsOf_count (s : List UInt8) : (wordsOf s).length ≤ s.length := by
  unfold wordsOf
  split
  · simp
  · split
    · simp
    · rename_i l hl
      exact (wordsF_sum _ _ _ hl).2
/-- the loop over the files -/
def SoRel (x0 : World) (b : Nat) (D : List ByteArray) (p v : ByteArray) (mv : Value) (iv : Value) (wr : World) : Prop := ∃ (j : Nat) (cs : List (List Value)) (fv : Value), 2 * j + 4 ≤ D.length ∧ iv = .int .i64 ((2 * j + 4 : Nat) : Int) ∧ All2 (CFb wr) cs ((filesB (D.drop 4)).take j) ∧ wr.ownsRow x0.heap.size 67 2 fv j cs.flatten ∧ Fr [b] x0 wr ∧ wr.heap[b]? = some (.cells (sV p v mv fv).toArray 60 (0, 0)) ∧ DatB wr mv (toL (D.getD 3 ⟨#[]⟩))
set_option maxRecDepth 100000 in
set_option maxHeartbeats 8000000 in
theorem parseSold_any (s : ByteArray) (hl : s.size ≤ 1048576) (w : World) : Calls Tryd.prog 24 #[.string s] w (PsPost w s) := by
  go_enter Tryd.func24, Tryd.ntmps24
  go_wp2_with fail
  refine (words_any _ s hl).mono ?_
  rintro e x1 ⟨D, v, rfl, hown, hB1, hD⟩
  obtain ⟨A, c, rfl, hS⟩ := row_sl hown
  have hr1 : x1.heap[w.heap.size]? = some (.cells (sV ⟨#[]⟩ ⟨#[]⟩ nilV nilV).toArray 60 (0, 0)) := (hB1.block _ (by simp)).trans (heap_alloc_new _ _)
  have hBw : Below w.heap.size w x1 := ((Below.refl w.heap.size w).alloc (Nat.le_refl _) _).trans (hB1.mono (by simp))
  have hz1 : w.heap.size < x1.heap.size := lt_of_heap hr1
  have Hr1 := Lib.hid hr1
  have HB1 := Lib.hid hBw
  have HS1 := Lib.hid hS
  have HD := Lib.hid hD
  have HDz : Hid (∀ p ∈ D, p.size ≤ 1048576) := Lib.hid (fun p hp => by
    have h3 := wordsOf_len (s := toL s) (x := toL p) (by rw [← hD]; exact List.mem_map.2 ⟨_, hp, rfl⟩)
    rw [toL_len, toL_len] at h3
    omega)
  have hDs : D.length ≤ 1048576 := by
    have h1 := wordsOf_count (toL s)
    rw [← hD, List.length_map, toL_len] at h1
    omega
  have hDle : D.length ≤ maxLen := by unfold maxLen; omega
  clear hr1 hBw hS hD hown hB1
  by_cases he : wordsErr (toL s) ≠ 0
  · have heb : (wordsErr (toL s) == 0) = false := beq_eq_false_iff_ne.2 he
    have Hp := Lib.hid (soldErr_err he)
    have He := Lib.hid he
    generalize wordsErr (toL s) = er at *
    clear he
    go_wp2_with ((with_reducible refine at_store 60 ?_); refine wpList_store_row rfl 60 _ _ rfl w.heap.size (sV ⟨#[]⟩ ⟨#[]⟩ nilV nilV).toArray rfl rfl 60 (sV ⟨#[]⟩ ⟨#[]⟩ nilV nilV).toArray Hr1.out sizeSold rfl (sV_one rfl rfl) ?_)
    refine bodyPost_ret (res_cell2 rfl _ _ w.heap.size 60 (sV ⟨#[]⟩ ⟨#[]⟩ nilV nilV).toArray (0, 0) rfl (setRow_heap _ _ _ _ _ _ Hr1.out) Tryd.underlying60 rfl sizeSold) rfl ?_
    exact ps_zero Hp.out He.out (below_row HB1.out (Nat.le_refl _) _)
  have he0 : wordsErr (toL s) = 0 := Decidable.not_not.1 he
  have Hp0 := Lib.hid (soldErr_ok he0)
  rw [he0]
  clear he he0
  by_cases hD0 : D = []
  · have hz : ((D.length : Int) == 0) = true := by rw [hD0]; rfl
    have Hp : Hid (soldErr (toL s) = 7) := Lib.hid (by rw [Hp0.out, ← HD.out, hD0]; rfl)
    clear hD0
    go_wp2_with ((with_reducible refine at_store 60 ?_); refine wpList_store_row rfl 60 _ _ rfl w.heap.size (sV ⟨#[]⟩ ⟨#[]⟩ nilV nilV).toArray rfl rfl 60 (sV ⟨#[]⟩ ⟨#[]⟩ nilV nilV).toArray Hr1.out sizeSold rfl (sV_one rfl rfl) ?_)
    refine bodyPost_ret (res_cell2 rfl _ _ w.heap.size 60 (sV ⟨#[]⟩ ⟨#[]⟩ nilV nilV).toArray (0, 0) rfl (setRow_heap _ _ _ _ _ _ Hr1.out) Tryd.underlying60 rfl sizeSold) rfl ?_
    exact ps_zero Hp.out (by decide) (below_row HB1.out (Nat.le_refl _) _)
  have hDl : 0 < D.length := List.length_pos_iff.2 hD0
  obtain ⟨bw, ow, q0, hA, hq0, hc0⟩ := str_at (w := x1) (x := D) HS1.out hDl
  rw [Nat.add_zero] at hc0
  subst hA
  have hz : ((D.length : Int) == 0) = false := by rw [beq_eq_false_iff_ne]; omega
  have hlt0 : (0 : Int) < D.length := by omega
  have Hhd : Hid ((wordsOf (toL s)).head? = some (toL q0)) := Lib.hid (by
    rw [← HD.out, List.head?_map, List.head?_eq_getElem?, hq0]
    rfl)
  have Hlen : Hid ((wordsOf (toL s)).length = D.length) := Lib.hid (by rw [← HD.out, List.length_map])
  clear hD0 hq0
  by_cases hr : ¬ q0.toList = [115, 101, 108, 108]
  · have hrb : (q0.toList == [115, 101, 108, 108]) = false := beq_eq_false_iff_ne.2 hr
    have Hp : Hid (soldErr (toL s) = 7) := Lib.hid (by
      rw [Hp0.out]
      unfold soldErrW
      rw [Hhd.out, if_pos (fun e => hr (by rw [toList_toL]; exact Option.some.inj e))])
    go_wp2_with ((with_reducible refine at_store 60 ?_); refine wpList_store_row rfl 60 _ _ rfl w.heap.size (sV ⟨#[]⟩ ⟨#[]⟩ nilV nilV).toArray rfl rfl 60 (sV ⟨#[]⟩ ⟨#[]⟩ nilV nilV).toArray Hr1.out sizeSold rfl (sV_one rfl rfl) ?_)
    refine bodyPost_ret (res_cell2 rfl _ _ w.heap.size 60 (sV ⟨#[]⟩ ⟨#[]⟩ nilV nilV).toArray (0, 0) rfl (setRow_heap _ _ _ _ _ _ Hr1.out) Tryd.underlying60 rfl sizeSold) rfl ?_
    exact ps_zero Hp.out (by decide) (below_row HB1.out (Nat.le_refl _) _)
  have hr := Decidable.not_not.1 hr
  have hrb : (q0.toList == [115, 101, 108, 108]) = true := by rw [hr]; rfl
  have Hsel : Hid (soldErr (toL s) = if D.length < 4 ∨ D.length % 2 = 1 then 14 else 0) := Lib.hid (by
    rw [Hp0.out]
    unfold soldErrW
    rw [Hhd.out, if_neg (fun h => h (by rw [← toList_toL, hr]; rfl)), Hlen.out])
  by_cases hm : D.length < 4 ∨ D.length % 2 = 1
  · have Hp : Hid (soldErr (toL s) = 14) := Lib.hid (by rw [Hsel.out, if_pos hm])
    by_cases h4 : (D.length : Int) < 4
    · clear hm
      go_wp2_with ((with_reducible refine at_store 60 ?_); refine wpList_store_row rfl 60 _ _ rfl w.heap.size (sV ⟨#[]⟩ ⟨#[]⟩ nilV nilV).toArray rfl rfl 60 (sV ⟨#[]⟩ ⟨#[]⟩ nilV nilV).toArray Hr1.out sizeSold rfl (sV_one rfl rfl) ?_)
      refine bodyPost_ret (res_cell2 rfl _ _ w.heap.size 60 (sV ⟨#[]⟩ ⟨#[]⟩ nilV nilV).toArray (0, 0) rfl (setRow_heap _ _ _ _ _ _ Hr1.out) Tryd.underlying60 rfl sizeSold) rfl ?_
      exact ps_zero Hp.out (by decide) (below_row HB1.out (Nat.le_refl _) _)
    · have hod : ((D.length : Int) % 2 == 1) = true := by
        have h1 : (D.length : Int) % 2 = ((D.length % 2 : Nat) : Int) := by omega
        rw [h1, beq_iff_eq]
        omega
      clear hm
      go_wp2_with ((with_reducible refine at_store 60 ?_); refine wpList_store_row rfl 60 _ _ rfl w.heap.size (sV ⟨#[]⟩ ⟨#[]⟩ nilV nilV).toArray rfl rfl 60 (sV ⟨#[]⟩ ⟨#[]⟩ nilV nilV).toArray Hr1.out sizeSold rfl (sV_one rfl rfl) ?_)
      refine bodyPost_ret (res_cell2 rfl _ _ w.heap.size 60 (sV ⟨#[]⟩ ⟨#[]⟩ nilV nilV).toArray (0, 0) rfl (setRow_heap _ _ _ _ _ _ Hr1.out) Tryd.underlying60 rfl sizeSold) rfl ?_
      exact ps_zero Hp.out (by decide) (below_row HB1.out (Nat.le_refl _) _)
  have h4 : ¬ (D.length : Int) < 4 := by omega
  have hev : D.length % 2 = 0 := by omega
  have hod : ((D.length : Int) % 2 == 1) = false := by
    have h1 : (D.length : Int) % 2 = ((D.length % 2 : Nat) : Int) := by omega
    rw [h1, beq_eq_false_iff_ne]
    omega
  have Hev := Lib.hid hev
  have Hp : Hid (soldErr (toL s) = 0) := Lib.hid (by rw [Hsel.out, if_neg hm])
  have hD4 : 4 ≤ D.length := by omega
  obtain ⟨_, _, q1, hA1, hq1, g1⟩ := str_at (w := x1) (x := D) HS1.out (i := 1) (by omega)
  cases hA1
  obtain ⟨_, _, q2, hA2, hq2, g2⟩ := str_at (w := x1) (x := D) HS1.out (i := 2) (by omega)
  cases hA2
  obtain ⟨_, _, q3, hA3, hq3, g3⟩ := str_at (w := x1) (x := D) HS1.out (i := 3) (by omega)
  cases hA3
  have hq3z : q3.size ≤ 1048576 := HDz.out q3 (List.mem_of_getElem? hq3)
  have Hq : Hid (D.getD 1 ⟨#[]⟩ = q1 ∧ D.getD 2 ⟨#[]⟩ = q2 ∧ D.getD 3 ⟨#[]⟩ = q3) := Lib.hid (by
    simp only [List.getD_eq_getElem?_getD, hq1, hq2, hq3, Option.getD_some]
    exact ⟨trivial, trivial, trivial⟩)
  have h1I : (1 : Int) < D.length := by omega
  have h2I : (2 : Int) < D.length := by omega
  have h3I : (3 : Int) < D.length := by omega
  clear hm hev hq1 hq2 hq3 hr
  go_wp2_with fail
  have d1 : x1.drew.cell? ⟨bw, ow + 1, none⟩ = some (.string q1) := g1
  have d2 : x1.drew.cell? ⟨bw, ow + 2, none⟩ = some (.string q2) := g2
  have d3 : x1.drew.cell? ⟨bw, ow + 3, none⟩ = some (.string q3) := g3
  with_reducible refine g_mixt 13 (PT.of [(0, 0), (1, 0), (2, 0), (3, 0), (4, 0), (5, 0), (6, 1), (7, 0), (8, 0), (9, 0)] (.fork 10 (PT.of [(11, 1), (12, 2), (13, 3)] .nil) 12 (PT.of [(10, 2), (11, 1), (13, 3)] .nil))) (fun w' => w'.cell? ⟨bw, ow + 1, none⟩ = some (.string q1) ∧ w'.cell? ⟨bw, ow + 2, none⟩ = some (.string q2) ∧ w'.cell? ⟨bw, ow + 3, none⟩ = some (.string q3)) (by kernel_rfl) (by kernel_rfl) ?_ ?_
  · exact ⟨d1, d2, d3⟩
  intro OPS
  simp only [PT.of, mixT, nthO, consT, forkT]
  iterate 6 ((with_reducible refine pt_val (v := ?_) ?_ ?_ ?_); rotate_left; (rintro _ ⟨h1, h2, h3⟩; go_simp; first | done | rfl | (constructor <;> rfl)); exact ⟨d1, d2, d3⟩)
  iterate 1 ((with_reducible refine pt_any (v := ?_) ?_ ?_); rotate_left; (rintro _; go_simp; first | done | rfl | (constructor <;> rfl)))
  iterate 3 ((with_reducible refine pt_val (v := ?_) ?_ ?_ ?_); rotate_left; (rintro _ ⟨h1, h2, h3⟩; go_simp; first | done | rfl | (constructor <;> rfl)); exact ⟨d1, d2, d3⟩)
  with_reducible refine pt_fork ?_ ?_
  · obtain ⟨dv', wc, hcv, hdat, hBc, hdv1⟩ := bytes_datB x1.drew q3 hq3z
    have hdat' := hdat
    obtain ⟨Ad, cd, rfl, _, _⟩ := hdat'
    obtain ⟨nd, hnd⟩ : ∃ nd, nd = (toL q3).length := ⟨_, rfl⟩
    rw [← hnd] at hcv hdat
    have hdv1 : (Value.slice Ad nd cd).oneCell' = true := rfl
    clear hnd
    have hBc' : Below x1.heap.size x1 wc := ⟨hBc.os, hBc.tape, hBc.output, hBc.size, hBc.block⟩
    with_reducible refine l_val (v := .slice Ad nd cd) (w' := wc) ?_ ?_
    · go_simp
    refine pt_keep ⟨hBc.cell (World.block_lt_of_cell? _ _ d1) |>.trans d1, hBc.cell (World.block_lt_of_cell? _ _ d2) |>.trans d2, hBc.cell (World.block_lt_of_cell? _ _ d3) |>.trans d3⟩ ?_
    iterate 1 ((with_reducible refine pt_any (v := ?_) ?_ ?_); rotate_left; (rintro _; go_simp; first | done | rfl | (constructor <;> rfl)))
    with_reducible refine pt_one ?_
    (with_reducible refine l_val (v := ?_) (w' := ?_) ?_ ?_); rotate_left 2; (go_simp; first | done | rfl | (constructor <;> rfl))
    refine pt_keep ⟨Cells.alloc _ _ _ _ (hBc.cell (World.block_lt_of_cell? _ _ d1) |>.trans d1), Cells.alloc _ _ _ _ (hBc.cell (World.block_lt_of_cell? _ _ d2) |>.trans d2), Cells.alloc _ _ _ _ (hBc.cell (World.block_lt_of_cell? _ _ d3) |>.trans d3)⟩ ?_
    have hz3 : (wc.alloc (.cells #[.string ⟨#[]⟩, .string ⟨#[]⟩, .slice none 0 0, .slice none 0 0] 60)).heap[wc.heap.size]? = some (.cells (sV ⟨#[]⟩ ⟨#[]⟩ nilV nilV).toArray 60 (0, 0)) := heap_alloc_new _ _
    with_reducible refine pt_three ?_
    refine wpList_store_row rfl 60 _ _ rfl wc.heap.size (sV q1 q2 (.slice Ad nd cd) nilV).toArray (by simp [Act.eval, Act.put]) (by simp [Act.eval, Act.put, sV, nilV]) 60 (sV ⟨#[]⟩ ⟨#[]⟩ nilV nilV).toArray hz3 sizeSold rfl (sV_one hdv1 rfl) ?_
    have hx3b : Below x1.heap.size x1 ((wc.alloc (.cells #[.string ⟨#[]⟩, .string ⟨#[]⟩, .slice none 0 0, .slice none 0 0] 60)).setRow wc.heap.size (sV q1 q2 (.slice Ad nd cd) nilV).toArray) := below_row (hBc'.alloc hBc'.size _) hBc'.size _
    have hx3r : ((wc.alloc (.cells #[.string ⟨#[]⟩, .string ⟨#[]⟩, .slice none 0 0, .slice none 0 0] 60)).setRow wc.heap.size (sV q1 q2 (.slice Ad nd cd) nilV).toArray).heap[wc.heap.size]? = some (.cells (sV q1 q2 (.slice Ad nd cd) nilV).toArray 60 (0, 0)) := setRow_heap _ _ _ _ _ _ hz3
    have hx3d : DatB ((wc.alloc (.cells #[.string ⟨#[]⟩, .string ⟨#[]⟩, .slice none 0 0, .slice none 0 0] 60)).setRow wc.heap.size (sV q1 q2 (.slice Ad nd cd) nilV).toArray) (.slice Ad nd cd) (toL q3) := hdat.keep (Byt.of_below (below_row ((Below.refl wc.heap.size wc).alloc (Nat.le_refl _) _) (Nat.le_refl _) _))
    have hbge : x1.heap.size ≤ wc.heap.size := hBc'.size
    generalize ((wc.alloc (.cells #[.string ⟨#[]⟩, .string ⟨#[]⟩, .slice none 0 0, .slice none 0 0] 60)).setRow wc.heap.size (sV q1 q2 (.slice Ad nd cd) nilV).toArray) = x3 at *
    generalize wc.heap.size = b at *
    clear hBc hBc' hdat hcv hz3
    with_reducible refine pt_last ?_
    with_reducible refine pt_end ?_
    simp only [Act.put, List.setIfInBounds_toArray, List.set_cons_zero, List.set_cons_succ]
    have hbl3 := lt_of_heap hx3r
    have Hx3d := Lib.hid hx3d
    have Hx3r := Lib.hid hx3r
    have hx13 := hx3b.size
    have hbwl : bw < x1.heap.size := World.block_lt_of_cell? x1 _ g1
    have HB3 := Lib.hid (HB1.out.trans (hx3b.mono HB1.out.size))
    have HR3 := Lib.hid ((hx3b.block w.heap.size hz1).trans Hr1.out)
    have Hw3 : Hid (∀ i, i < D.length → ∃ s, D[i]? = some s ∧ s.size ≤ 1048576 ∧ x3.cell? ⟨bw, ow + i, none⟩ = some (.string s)) := Lib.hid (fun i hi => by
      obtain ⟨_, _, q, hA, hq, g⟩ := str_at (w := x1) (x := D) HS1.out hi
      cases hA
      exact ⟨q, hq, HDz.out q (List.mem_of_getElem? hq), (hx3b.cell (World.block_lt_of_cell? x1 _ g)).trans g⟩)
    have hD30 : D.length ≤ 9223372036854775807 := by unfold maxLen at hDle; omega
    clear hx3b hx3r hx3d d1 d2 d3 g1 g2 g3 hc0 HS1 Hr1 HB1
    go_wp2_with fail
    go_loopw [7] (fun iv wr => SoRel x3 b D q1 q2 (.slice Ad nd cd) iv wr) (fun iv _ => D.length - (intOf iv).toNat)
    case atStart => exact ⟨0, [], nilV, by omega, by simp, trivial, World.ownsRow_nil _ _ _ _, Fr.refl _ _, Hx3r.out, by rw [Hq.out.2.2]; exact Hx3d.out⟩
    case round =>
      obtain ⟨j, cs, fv, hj, rfl, hcs, hown, hfr, hb, hdv⟩ := hrel
      have Hcs := Lib.hid hcs
      have Hown := Lib.hid hown
      have Hfr := Lib.hid hfr
      have Hb := Lib.hid hb
      have Hdv := Lib.hid hdv
      have hxz := hfr.size
      obtain ⟨Af, cf, hfv, _, _, _, _⟩ := own_form hown
      subst hfv
      clear hcs hown hfr hb hdv
      by_cases hlt : 2 * j + 4 < D.length
      · have hlt2 : 2 * j + 5 < D.length := by have := Hev.out; omega
        obtain ⟨N, hN⟩ : ∃ N : Nat, N = 2 * j + 4 := ⟨_, rfl⟩
        obtain ⟨a, ha, haz, ga⟩ := Hw3.out (2 * j + 4) hlt
        obtain ⟨bb, hbb, hbbz, gb⟩ := Hw3.out (2 * j + 5) hlt2
        have hfl : (filesB (D.drop 4))[j]? = some (a, toL bb) := filesB_at _ j a bb (by rw [List.getElem?_drop, show 4 + 2 * j = 2 * j + 4 by omega]; exact ha) (by rw [List.getElem?_drop, show 4 + (2 * j + 1) = 2 * j + 5 by omega]; exact hbb)
        have Htk := Lib.hid (take_snoc hfl)
        have Hj := Lib.hid (show j + 1 ≤ D.length / 2 ∧ 2 * (j + 1) + 4 ≤ D.length ∧ ((2 * (j + 1) + 4 : Nat) : Int) = (N : Int) + 2 by omega)
        rw [← hN] at ga ⊢
        rw [show ow + (2 * j + 5) = ow + (N + 1) by omega] at gb
        have HNj := Lib.hid hN
        have hNl : N + 1 < D.length := by omega
        have hj30 : j + 1 ≤ 1048576 := by omega
        have hjm : (j + 1) * 2 ≤ maxLen := by unfold maxLen at hDle ⊢; omega
        clear hN ha hbb hfl hlt hlt2 hj
        have hNI : (N : Int) < D.length := by omega
        have hNI1 : (N : Int) + 1 < D.length := by omega
        have hNr : (0 : Int) ≤ N := by omega
        have hNr1 : (0 : Int) ≤ (N : Int) + 1 := by omega
        have hNt : ((N : Int) + 1).toNat = N + 1 := by omega
        have hNw : IntKind.i64.wrap ((N : Int) + 1) = (N : Int) + 1 := by rw [IntKind.wrap_i64]; omega
        have e1 : wr.drew.cell? ⟨bw, ow + N, none⟩ = some (.string a) := (World.cell?_of_block (w' := wr.drew) (Hfr.out.block bw (by omega) (by simp; omega))).trans ga
        have e2 : wr.drew.cell? ⟨bw, ow + (N + 1), none⟩ = some (.string bb) := (World.cell?_of_block (w' := wr.drew) (Hfr.out.block bw (by omega) (by simp; omega))).trans gb
        have hbd : wr.drew.heap[b]? = some (.cells (sV q1 q2 (.slice Ad nd cd) (.slice Af j cf)).toArray 60 (0, 0)) := Hb.out
        have e3 : wr.drew.cell? ⟨b, 3, none⟩ = some (.slice Af j cf) := (blk_cells hbd).1 3
        have Hownd : Hid (wr.drew.ownsRow x3.heap.size 67 2 (.slice Af j cf) j cs.flatten) := Lib.hid (own_keep Hown.out fun q c hq => hq)
        obtain ⟨dv', wc, hcv, hdat, hBc, hdv1⟩ := bytes_datB wr.drew bb hbbz
        have hdat' := hdat
        obtain ⟨Ae, ce, rfl, _, _⟩ := hdat'
        obtain ⟨ne, hne⟩ : ∃ ne, ne = (toL bb).length := ⟨_, rfl⟩
        rw [← hne] at hcv hdat hdv1
        clear hne
        have f1 := (hBc.cell (World.block_lt_of_cell? _ _ e1)).trans e1
        have f2 := (hBc.cell (World.block_lt_of_cell? _ _ e2)).trans e2
        have f3 := (hBc.cell (World.block_lt_of_cell? _ _ e3)).trans e3
        have Hownc : Hid (wc.ownsRow x3.heap.size 67 2 (.slice Af j cf) j cs.flatten) := Lib.hid (own_keep Hownd.out fun q c hq => (hBc.block q (lt_of_heap hq)).trans hq)
        have hbyt : Byt wr wc := fun k cur fr hk => Byt.of_below hBc k cur fr hk
        have hbc : wc.heap[b]? = some (.cells (sV q1 q2 (.slice Ad nd cd) (.slice Af j cf)).toArray 60 (0, 0)) := (hBc.block b (lt_of_heap hbd)).trans hbd
        have hfrc : Fr [b] x3 wc := (Hfr.out.drewN 1).trans (Fr.of_below hBc _)
        have Hdat := Lib.hid hdat
        have Hbyt := Lib.hid hbyt
        have Hbc := Lib.hid hbc
        have Hfrc := Lib.hid hfrc
        have hcz := hfrc.size
        obtain ⟨iF, hiF, hzF, hsF, hbF⟩ := info_parts infoFile
        clear hdat hbyt hbc hfrc hBc hbd ga gb
        go_wp2_with fail
        with_reducible refine g_mixx [(0, 1), (1, 0), (2, 1), (3, 1), (4, 1), (5, 0), (6, 1), (7, 1), (8, 1), (9, 1), (10, 0), (11, 2), (12, 1), (13, 2), (14, 3), (15, 1), (16, 3)] (fun w' => w'.cell? ⟨b, 3, none⟩ = some (.slice Af j cf) ∧ w'.cell? ⟨bw, ow + N, none⟩ = some (.string a) ∧ w'.cell? ⟨bw, ow + (N + 1), none⟩ = some (.string bb)) 0 _ rfl (by kernel_rfl) (by kernel_rfl) ?_ ?_
        · exact ⟨e3, e1, e2⟩
        intro OPS2 HD2
        simp only [mixX, nthO, consX]
        iterate 1 ((with_reducible refine x_any (v := ?_) ?_ ?_); rotate_left; (rintro _; go_simp; first | done | rfl | (constructor <;> rfl)))
        iterate 1 ((with_reducible refine x_val (v := ?_) ?_ ?_ ?_); rotate_left; (rintro _ ⟨h1, h2, h3⟩; go_simp; first | done | rfl | (constructor <;> rfl)); exact ⟨e3, e1, e2⟩)
        iterate 3 ((with_reducible refine x_any (v := ?_) ?_ ?_); rotate_left; (rintro _; go_simp; first | done | rfl | (constructor <;> rfl)))
        iterate 1 ((with_reducible refine x_val (v := ?_) ?_ ?_ ?_); rotate_left; (rintro _ ⟨h1, h2, h3⟩; go_simp; first | done | rfl | (constructor <;> rfl)); exact ⟨e3, e1, e2⟩)
        iterate 4 ((with_reducible refine x_any (v := ?_) ?_ ?_); rotate_left; (rintro _; go_simp; first | done | rfl | (constructor <;> rfl)))
        iterate 1 ((with_reducible refine x_val (v := ?_) ?_ ?_ ?_); rotate_left; (rintro _ ⟨h1, h2, h3⟩; go_simp; first | done | rfl | (constructor <;> rfl)); exact ⟨e3, e1, e2⟩)
        with_reducible refine x_one ?_
        with_reducible refine l_val (v := .slice Ae ne ce) (w' := wc) ?_ ?_
        · go_simp
        refine x_keep ⟨f3, f1, f2⟩ ?_
        iterate 1 ((with_reducible refine x_any (v := ?_) ?_ ?_); rotate_left; (rintro _; go_simp; first | done | rfl | (constructor <;> rfl)))
        with_reducible refine x_one ?_
        iterate 1 (with_reducible refine l_val (v := ?_) (w' := ?_) ?_ ?_; rotate_left 2; (go_simp; first | done | rfl | (constructor <;> rfl)))
        refine x_keep ⟨Cells.alloc _ _ _ _ f3, Cells.alloc _ _ _ _ f1, Cells.alloc _ _ _ _ f2⟩ ?_
        with_reducible refine x_three ?_
        refine wpList_append_own _ rfl (.tmp 59) (.tmp 71) 58 rfl x3.heap.size 67 iF (.agg #[.string ⟨#[]⟩, .slice none 0 0]) 2 40 Tryd.underlying58 hiF hzF hsF hbF rfl (by omega) (.slice Af j cf) j cs.flatten ?_ (Hownc.out.alloc _) ⟨wc.heap.size, 0, none⟩ 1 1 [.string a, .slice Ae ne ce] ?_ rfl (fun j v hv => World.news_of_block (w := wc.alloc _) (heap_alloc_new wc _) j v hv) (one_file rfl) (by omega) (by omega) (by simp; omega) ?_
        · simp [Act.eval, Act.put]
        · simp [Act.eval, Act.put]
        intro v1 wp hown1 hgrow1 _
        have hba : Byt wc (wc.alloc (.cells #[.string a, .slice Ae ne ce] 67)) := Byt.of_below ((Below.refl wc.heap.size wc).alloc (Nat.le_refl _) _)
        have hbg := Byt.of_grown hgrow1 (Hownc.out.alloc (.cells #[.string a, .slice Ae ne ce] 67))
        have hnb : ∀ q, (Value.slice Af j cf).ownBlock = some q → x3.heap.size ≤ q := fun q hq => (own_blk Hownc.out q hq).1
        have hgg : ∀ q, q < wc.heap.size → q < x3.heap.size → wp.heap[q]? = wc.heap[q]? := fun q hq hq0 => (hgrow1.block q (by simp; omega) (fun e => by have := hnb q e.symm; omega)).trans (Below.heap_alloc wc _ _ hq)
        have hb6 := (hgg b (lt_of_heap Hbc.out) hbl3).trans Hbc.out
        have hfr6 : Fr [b] x3 wp := ⟨hgrow1.os.trans Hfrc.out.os, hgrow1.tape.trans Hfrc.out.tape, hgrow1.output.trans Hfrc.out.output, by have := hgrow1.size; simp at this; omega, fun q hq hn => (hgg q (by omega) hq).trans (Hfrc.out.block q hq hn)⟩
        have hc6 : wp.cell? ⟨b, 3, none⟩ = some (.slice Af j cf) := (blk_cells hb6).1 3
        have hz6 := (blk_cells hb6).2.1 3
        obtain ⟨Av1, cv1, rfl, _, _, _, _⟩ := own_form hown1
        have hset : Byt wp (wp.setCell ⟨b, 3, none⟩ (.slice Av1 (j + 1) cv1)) := Byt.of_fr (Fr.setCell [b] wp ⟨b, 3, none⟩ _ (by simp)) hb6 (by decide)
        have hm : SoRel x3 b D q1 q2 (.slice Ad nd cd) (.int .i64 ((N : Int) + 2)) (wp.setCell ⟨b, 3, none⟩ (.slice Av1 (j + 1) cv1)) := by
          refine ⟨j + 1, cs ++ [[.string a, .slice Ae ne ce]], .slice Av1 (j + 1) cv1, Hj.out.2.1, by rw [Hj.out.2.2], ?_, ?_, hfr6.trans (Fr.setCell [b] wp ⟨b, 3, none⟩ _ (by simp)), ?_, ?_⟩
          · rw [Htk.out]
            exact (Hcs.out.mono fun _ _ h => h.keep (((Hbyt.out.trans hba).trans hbg).trans hset)).append ⟨_, rfl, Hdat.out.keep ((hba.trans hbg).trans hset)⟩
          · rw [List.flatten_append, List.flatten_singleton]
            exact own_keep hown1 fun q c hq => by
              rw [(Fr.setCell [b] wp ⟨b, 3, none⟩ _ (by simp)).block q (lt_of_heap hq) (by
                rintro hqb
                simp only [List.mem_singleton] at hqb
                subst hqb
                rw [hb6] at hq
                cases hq)]
              exact hq
          · rw [heap_setCell_at hb6]
            rfl
          · exact Hdv.out.keep (((Hbyt.out.trans hba).trans hbg).trans hset)
        have Hm := Lib.hid hm
        clear hm hown1 hgrow1 hnb hgg hb6 hfr6 hba hbg hset e1 e2 e3 f1 f2 f3
        with_reducible refine x_last ?_
        iterate 1 ((with_reducible refine x_any (v := ?_) ?_ ?_); rotate_left; (rintro _; go_simp; first | done | rfl | (constructor <;> rfl)))
        with_reducible refine x_three ?_
        with_reducible refine l_skip (w' := wp.setCell ⟨b, 3, none⟩ (.slice Av1 (j + 1) cv1)) ?_ ?_
        · go_simp
        with_reducible refine x_last ?_
        with_reducible refine x_end ?_
        simp only [Act.put, List.setIfInBounds_toArray, List.set_cons_zero, List.set_cons_succ]
        clear hc6 hz6 HD2 hcv
        have hN2 : IntKind.i64.wrap ((N : Int) + 2) = (N : Int) + 2 := by rw [IntKind.wrap_i64]; omega
        go_wp2_with fail
        refine ⟨Hm.out, ?_⟩
        simp only [intOf]
        omega
      · obtain ⟨N, hN⟩ : ∃ N : Nat, N = 2 * j + 4 := ⟨_, rfl⟩
        rw [← hN]
        have hNI : ¬ (N : Int) < D.length := by omega
        have hje : j = (filesB (D.drop 4)).length := by rw [filesB_len, List.length_drop]; omega
        have hfs : (filesB (D.drop 4)).take j = filesB (D.drop 4) := List.take_of_length_le (by omega)
        have HBy := Lib.hid (HB3.out.trans (Hfr.out.below (B := w.heap.size) HB3.out.size (by intro q hq; simp at hq; omega)))
        have HRR := Lib.hid ((Hfr.out.block w.heap.size (by omega) (by simp; omega)).trans HR3.out)
        have hcs2 := Hcs.out
        rw [hfs] at hcs2
        have Hcs2 := Lib.hid hcs2
        have hbw2 : b ≠ w.heap.size := by omega
        have Hje := Lib.hid hje
        clear hN hlt hfs hcs2 Hcs hje
        go_wp2_with (first
          | ((with_reducible refine at_load 60 ?_); refine wpList_load_row rfl 60 _ rfl b rfl 60 (sV q1 q2 (.slice Ad nd cd) (.slice Af j cf)).toArray (0, 0) _ Hb.out Tryd.underlying60 rfl sizeSold ?_)
          | ((with_reducible refine at_store 60 ?_); refine wpList_store_row rfl 60 _ _ rfl w.heap.size (sV q1 q2 (.slice Ad nd cd) (.slice Af j cf)).toArray rfl rfl 60 (sV ⟨#[]⟩ ⟨#[]⟩ nilV nilV).toArray HRR.out sizeSold rfl (sV_one rfl rfl) ?_))
        refine bodyPost_ret (res_cell2 rfl _ _ w.heap.size 60 (sV q1 q2 (.slice Ad nd cd) (.slice Af j cf)).toArray (0, 0) rfl (setRow_heap _ _ _ _ _ _ HRR.out) Tryd.underlying60 rfl sizeSold) rfl ?_
        have hbt : Byt wr (wr.setRow w.heap.size (sV q1 q2 (.slice Ad nd cd) (.slice Af j cf)).toArray) := fun k cur fr hk => by
          rw [setRow_other _ _ _ _ (by
            rintro rfl
            rw [HRR.out] at hk
            cases hk)]
          exact hk
        have hdv2 := Hdv.out.keep hbt
        obtain ⟨A8, c8, h8, hb8, _⟩ := hdv2
        simp only [Value.slice.injEq] at h8
        obtain ⟨rfl, rfl, rfl⟩ := h8
        have hown2 := own_keep (w' := wr.setRow w.heap.size (sV q1 q2 (.slice Ad (toL (D.getD 3 ⟨#[]⟩)).length cd) (.slice Af j cf)).toArray) Hown.out fun q c hq => by
          rw [setRow_other _ _ _ _ (by
            rintro rfl
            rw [HRR.out] at hq
            cases hq)]
          exact hq
        have hfo : FlOwn (wr.setRow w.heap.size (sV q1 q2 (.slice Ad (toL (D.getD 3 ⟨#[]⟩)).length cd) (.slice Af j cf)).toArray) x3.heap.size (.slice Af j cf) (filesB (D.drop 4)) := ⟨cs, Hcs2.out.mono fun _ _ h => (h.keep hbt).cfl, by rw [← Hje.out]; exact hown2⟩
        obtain ⟨A9, c9, h9, hf9⟩ := hfo.files
        simp only [Value.slice.injEq] at h9
        obtain ⟨rfl, hj9, rfl⟩ := h9
        refine ⟨_, soldOf D, by rw [Hp.out]; rfl, ⟨Ad, cd, Af, cf, ?_, hb8, hf9⟩, below_row HBy.out (Nat.le_refl _) _, fun _ => ⟨D, HD.out, rfl⟩, fun h => absurd Hp.out h⟩
        unfold soldOf
        rw [Hq.out.1, Hq.out.2.1]
        simp only
        rw [← hj9]
  · (with_reducible refine l_val (v := ?_) (w' := ?_) ?_ ?_); rotate_left 2; (go_simp; first | done | rfl | (constructor <;> rfl))
    refine pt_keep ⟨Cells.alloc _ _ _ _ d1, Cells.alloc _ _ _ _ d2, Cells.alloc _ _ _ _ d3⟩ ?_
    have hza : (World.drew (x1.alloc (.cells #[.string ⟨#[]⟩, .string ⟨#[]⟩, .slice none 0 0, .slice none 0 0] 60))).heap[x1.heap.size]? = some (.cells (sV ⟨#[]⟩ ⟨#[]⟩ nilV nilV).toArray 60 (0, 0)) := heap_alloc_new x1 _
    have hBa : Below x1.heap.size x1 (World.drew (x1.alloc (.cells #[.string ⟨#[]⟩, .string ⟨#[]⟩, .slice none 0 0, .slice none 0 0] 60))) := below_drewN ((Below.refl x1.heap.size x1).alloc (Nat.le_refl _) _) 1
    obtain ⟨dv', wc, hcv, hdat, hBc, hdv1⟩ := bytes_datB (World.drew (x1.alloc (.cells #[.string ⟨#[]⟩, .string ⟨#[]⟩, .slice none 0 0, .slice none 0 0] 60))) q3 hq3z
    have hdat' := hdat
    obtain ⟨Ad, cd, rfl, _, _⟩ := hdat'
    obtain ⟨nd, hnd⟩ : ∃ nd, nd = (toL q3).length := ⟨_, rfl⟩
    rw [← hnd] at hcv hdat
    have hdv1 : (Value.slice Ad nd cd).oneCell' = true := rfl
    clear hnd
    have hBc' := hBa.trans (hBc.mono hBa.size)
    have e1 := (hBc'.cell (World.block_lt_of_cell? _ _ g1)).trans g1
    have e2 := (hBc'.cell (World.block_lt_of_cell? _ _ g2)).trans g2
    have e3 := (hBc'.cell (World.block_lt_of_cell? _ _ g3)).trans g3
    with_reducible refine pt_one ?_
    with_reducible refine l_val (v := .slice Ad nd cd) (w' := wc) ?_ ?_
    · go_simp
    refine pt_keep ⟨e1, e2, e3⟩ ?_
    iterate 1 ((with_reducible refine pt_any (v := ?_) ?_ ?_); rotate_left; (rintro _; go_simp; first | done | rfl | (constructor <;> rfl)))
    have hz3 : wc.heap[x1.heap.size]? = some (.cells (sV ⟨#[]⟩ ⟨#[]⟩ nilV nilV).toArray 60 (0, 0)) := (hBc.block _ (lt_of_heap hza)).trans hza
    with_reducible refine pt_three ?_
    refine wpList_store_row rfl 60 _ _ rfl x1.heap.size (sV q1 q2 (.slice Ad nd cd) nilV).toArray (by simp [Act.eval, Act.put]) (by simp [Act.eval, Act.put, sV, nilV]) 60 (sV ⟨#[]⟩ ⟨#[]⟩ nilV nilV).toArray hz3 sizeSold rfl (sV_one hdv1 rfl) ?_
    have hx3b : Below x1.heap.size x1 (wc.setRow x1.heap.size (sV q1 q2 (.slice Ad nd cd) nilV).toArray) := below_row hBc' (Nat.le_refl _) _
    have hx3r : (wc.setRow x1.heap.size (sV q1 q2 (.slice Ad nd cd) nilV).toArray).heap[x1.heap.size]? = some (.cells (sV q1 q2 (.slice Ad nd cd) nilV).toArray 60 (0, 0)) := setRow_heap _ _ _ _ _ _ hz3
    have hx3d : DatB (wc.setRow x1.heap.size (sV q1 q2 (.slice Ad nd cd) nilV).toArray) (.slice Ad nd cd) (toL q3) := hdat.keep (fun k cur fr hk => by
      rw [setRow_other _ _ _ _ (by
        rintro rfl
        rw [hz3] at hk
        cases hk)]
      exact hk)
    have hbge : x1.heap.size ≤ x1.heap.size := Nat.le_refl _
    generalize (wc.setRow x1.heap.size (sV q1 q2 (.slice Ad nd cd) nilV).toArray) = x3 at *
    obtain ⟨b, hb⟩ : ∃ b, b = x1.heap.size := ⟨_, rfl⟩
    rw [← hb] at hx3r ⊢
    have hbge : x1.heap.size ≤ b := Nat.le_of_eq hb.symm
    clear hb hza hBa hBc hBc' hdat hcv hz3 e1 e2 e3
    with_reducible refine pt_last ?_
    with_reducible refine pt_end ?_
    simp only [Act.put, List.setIfInBounds_toArray, List.set_cons_zero, List.set_cons_succ]
    have hbl3 := lt_of_heap hx3r
    have Hx3d := Lib.hid hx3d
    have Hx3r := Lib.hid hx3r
    have hx13 := hx3b.size
    have hbwl : bw < x1.heap.size := World.block_lt_of_cell? x1 _ g1
    have HB3 := Lib.hid (HB1.out.trans (hx3b.mono HB1.out.size))
    have HR3 := Lib.hid ((hx3b.block w.heap.size hz1).trans Hr1.out)
    have Hw3 : Hid (∀ i, i < D.length → ∃ s, D[i]? = some s ∧ s.size ≤ 1048576 ∧ x3.cell? ⟨bw, ow + i, none⟩ = some (.string s)) := Lib.hid (fun i hi => by
      obtain ⟨_, _, q, hA, hq, g⟩ := str_at (w := x1) (x := D) HS1.out hi
      cases hA
      exact ⟨q, hq, HDz.out q (List.mem_of_getElem? hq), (hx3b.cell (World.block_lt_of_cell? x1 _ g)).trans g⟩)
    have hD30 : D.length ≤ 9223372036854775807 := by unfold maxLen at hDle; omega
    clear hx3b hx3r hx3d d1 d2 d3 g1 g2 g3 hc0 HS1 Hr1 HB1
    go_wp2_with fail
    go_loopw [7] (fun iv wr => SoRel x3 b D q1 q2 (.slice Ad nd cd) iv wr) (fun iv _ => D.length - (intOf iv).toNat)
    case atStart => exact ⟨0, [], nilV, by omega, by simp, trivial, World.ownsRow_nil _ _ _ _, Fr.refl _ _, Hx3r.out, by rw [Hq.out.2.2]; exact Hx3d.out⟩
    case round =>
      obtain ⟨j, cs, fv, hj, rfl, hcs, hown, hfr, hb, hdv⟩ := hrel
      have Hcs := Lib.hid hcs
      have Hown := Lib.hid hown
      have Hfr := Lib.hid hfr
      have Hb := Lib.hid hb
      have Hdv := Lib.hid hdv
      have hxz := hfr.size
      obtain ⟨Af, cf, hfv, _, _, _, _⟩ := own_form hown
      subst hfv
      clear hcs hown hfr hb hdv
      by_cases hlt : 2 * j + 4 < D.length
      · have hlt2 : 2 * j + 5 < D.length := by have := Hev.out; omega
        obtain ⟨N, hN⟩ : ∃ N : Nat, N = 2 * j + 4 := ⟨_, rfl⟩
        obtain ⟨a, ha, haz, ga⟩ := Hw3.out (2 * j + 4) hlt
        obtain ⟨bb, hbb, hbbz, gb⟩ := Hw3.out (2 * j + 5) hlt2
        have hfl : (filesB (D.drop 4))[j]? = some (a, toL bb) := filesB_at _ j a bb (by rw [List.getElem?_drop, show 4 + 2 * j = 2 * j + 4 by omega]; exact ha) (by rw [List.getElem?_drop, show 4 + (2 * j + 1) = 2 * j + 5 by omega]; exact hbb)
        have Htk := Lib.hid (take_snoc hfl)
        have Hj := Lib.hid (show j + 1 ≤ D.length / 2 ∧ 2 * (j + 1) + 4 ≤ D.length ∧ ((2 * (j + 1) + 4 : Nat) : Int) = (N : Int) + 2 by omega)
        rw [← hN] at ga ⊢
        rw [show ow + (2 * j + 5) = ow + (N + 1) by omega] at gb
        have HNj := Lib.hid hN
        have hNl : N + 1 < D.length := by omega
        have hj30 : j + 1 ≤ 1048576 := by omega
        have hjm : (j + 1) * 2 ≤ maxLen := by unfold maxLen at hDle ⊢; omega
        clear hN ha hbb hfl hlt hlt2 hj
        have hNI : (N : Int) < D.length := by omega
        have hNI1 : (N : Int) + 1 < D.length := by omega
        have hNr : (0 : Int) ≤ N := by omega
        have hNr1 : (0 : Int) ≤ (N : Int) + 1 := by omega
        have hNt : ((N : Int) + 1).toNat = N + 1 := by omega
        have hNw : IntKind.i64.wrap ((N : Int) + 1) = (N : Int) + 1 := by rw [IntKind.wrap_i64]; omega
        have e1 : wr.drew.cell? ⟨bw, ow + N, none⟩ = some (.string a) := (World.cell?_of_block (w' := wr.drew) (Hfr.out.block bw (by omega) (by simp; omega))).trans ga
        have e2 : wr.drew.cell? ⟨bw, ow + (N + 1), none⟩ = some (.string bb) := (World.cell?_of_block (w' := wr.drew) (Hfr.out.block bw (by omega) (by simp; omega))).trans gb
        have hbd : wr.drew.heap[b]? = some (.cells (sV q1 q2 (.slice Ad nd cd) (.slice Af j cf)).toArray 60 (0, 0)) := Hb.out
        have e3 : wr.drew.cell? ⟨b, 3, none⟩ = some (.slice Af j cf) := (blk_cells hbd).1 3
        have Hownd : Hid (wr.drew.ownsRow x3.heap.size 67 2 (.slice Af j cf) j cs.flatten) := Lib.hid (own_keep Hown.out fun q c hq => hq)
        obtain ⟨dv', wc, hcv, hdat, hBc, hdv1⟩ := bytes_datB wr.drew bb hbbz
        have hdat' := hdat
        obtain ⟨Ae, ce, rfl, _, _⟩ := hdat'
        obtain ⟨ne, hne⟩ : ∃ ne, ne = (toL bb).length := ⟨_, rfl⟩
        rw [← hne] at hcv hdat hdv1
        clear hne
        have f1 := (hBc.cell (World.block_lt_of_cell? _ _ e1)).trans e1
        have f2 := (hBc.cell (World.block_lt_of_cell? _ _ e2)).trans e2
        have f3 := (hBc.cell (World.block_lt_of_cell? _ _ e3)).trans e3
        have Hownc : Hid (wc.ownsRow x3.heap.size 67 2 (.slice Af j cf) j cs.flatten) := Lib.hid (own_keep Hownd.out fun q c hq => (hBc.block q (lt_of_heap hq)).trans hq)
        have hbyt : Byt wr wc := fun k cur fr hk => Byt.of_below hBc k cur fr hk
        have hbc : wc.heap[b]? = some (.cells (sV q1 q2 (.slice Ad nd cd) (.slice Af j cf)).toArray 60 (0, 0)) := (hBc.block b (lt_of_heap hbd)).trans hbd
        have hfrc : Fr [b] x3 wc := (Hfr.out.drewN 1).trans (Fr.of_below hBc _)
        have Hdat := Lib.hid hdat
        have Hbyt := Lib.hid hbyt
        have Hbc := Lib.hid hbc
        have Hfrc := Lib.hid hfrc
        have hcz := hfrc.size
        obtain ⟨iF, hiF, hzF, hsF, hbF⟩ := info_parts infoFile
        clear hdat hbyt hbc hfrc hBc hbd ga gb
        go_wp2_with fail
        with_reducible refine g_mixx [(0, 1), (1, 0), (2, 1), (3, 1), (4, 1), (5, 0), (6, 1), (7, 1), (8, 1), (9, 1), (10, 0), (11, 2), (12, 1), (13, 2), (14, 3), (15, 1), (16, 3)] (fun w' => w'.cell? ⟨b, 3, none⟩ = some (.slice Af j cf) ∧ w'.cell? ⟨bw, ow + N, none⟩ = some (.string a) ∧ w'.cell? ⟨bw, ow + (N + 1), none⟩ = some (.string bb)) 0 _ rfl (by kernel_rfl) (by kernel_rfl) ?_ ?_
        · exact ⟨e3, e1, e2⟩
        intro OPS2 HD2
        simp only [mixX, nthO, consX]
        iterate 1 ((with_reducible refine x_any (v := ?_) ?_ ?_); rotate_left; (rintro _; go_simp; first | done | rfl | (constructor <;> rfl)))
        iterate 1 ((with_reducible refine x_val (v := ?_) ?_ ?_ ?_); rotate_left; (rintro _ ⟨h1, h2, h3⟩; go_simp; first | done | rfl | (constructor <;> rfl)); exact ⟨e3, e1, e2⟩)
        iterate 3 ((with_reducible refine x_any (v := ?_) ?_ ?_); rotate_left; (rintro _; go_simp; first | done | rfl | (constructor <;> rfl)))
        iterate 1 ((with_reducible refine x_val (v := ?_) ?_ ?_ ?_); rotate_left; (rintro _ ⟨h1, h2, h3⟩; go_simp; first | done | rfl | (constructor <;> rfl)); exact ⟨e3, e1, e2⟩)
        iterate 4 ((with_reducible refine x_any (v := ?_) ?_ ?_); rotate_left; (rintro _; go_simp; first | done | rfl | (constructor <;> rfl)))
        iterate 1 ((with_reducible refine x_val (v := ?_) ?_ ?_ ?_); rotate_left; (rintro _ ⟨h1, h2, h3⟩; go_simp; first | done | rfl | (constructor <;> rfl)); exact ⟨e3, e1, e2⟩)
        with_reducible refine x_one ?_
        with_reducible refine l_val (v := .slice Ae ne ce) (w' := wc) ?_ ?_
        · go_simp
        refine x_keep ⟨f3, f1, f2⟩ ?_
        iterate 1 ((with_reducible refine x_any (v := ?_) ?_ ?_); rotate_left; (rintro _; go_simp; first | done | rfl | (constructor <;> rfl)))
        with_reducible refine x_one ?_
        iterate 1 (with_reducible refine l_val (v := ?_) (w' := ?_) ?_ ?_; rotate_left 2; (go_simp; first | done | rfl | (constructor <;> rfl)))
        refine x_keep ⟨Cells.alloc _ _ _ _ f3, Cells.alloc _ _ _ _ f1, Cells.alloc _ _ _ _ f2⟩ ?_
        with_reducible refine x_three ?_
        refine wpList_append_own _ rfl (.tmp 59) (.tmp 71) 58 rfl x3.heap.size 67 iF (.agg #[.string ⟨#[]⟩, .slice none 0 0]) 2 40 Tryd.underlying58 hiF hzF hsF hbF rfl (by omega) (.slice Af j cf) j cs.flatten ?_ (Hownc.out.alloc _) ⟨wc.heap.size, 0, none⟩ 1 1 [.string a, .slice Ae ne ce] ?_ rfl (fun j v hv => World.news_of_block (w := wc.alloc _) (heap_alloc_new wc _) j v hv) (one_file rfl) (by omega) (by omega) (by simp; omega) ?_
        · simp [Act.eval, Act.put]
        · simp [Act.eval, Act.put]
        intro v1 wp hown1 hgrow1 _
        have hba : Byt wc (wc.alloc (.cells #[.string a, .slice Ae ne ce] 67)) := Byt.of_below ((Below.refl wc.heap.size wc).alloc (Nat.le_refl _) _)
        have hbg := Byt.of_grown hgrow1 (Hownc.out.alloc (.cells #[.string a, .slice Ae ne ce] 67))
        have hnb : ∀ q, (Value.slice Af j cf).ownBlock = some q → x3.heap.size ≤ q := fun q hq => (own_blk Hownc.out q hq).1
        have hgg : ∀ q, q < wc.heap.size → q < x3.heap.size → wp.heap[q]? = wc.heap[q]? := fun q hq hq0 => (hgrow1.block q (by simp; omega) (fun e => by have := hnb q e.symm; omega)).trans (Below.heap_alloc wc _ _ hq)
        have hb6 := (hgg b (lt_of_heap Hbc.out) hbl3).trans Hbc.out
        have hfr6 : Fr [b] x3 wp := ⟨hgrow1.os.trans Hfrc.out.os, hgrow1.tape.trans Hfrc.out.tape, hgrow1.output.trans Hfrc.out.output, by have := hgrow1.size; simp at this; omega, fun q hq hn => (hgg q (by omega) hq).trans (Hfrc.out.block q hq hn)⟩
        have hc6 : wp.cell? ⟨b, 3, none⟩ = some (.slice Af j cf) := (blk_cells hb6).1 3
        have hz6 := (blk_cells hb6).2.1 3
        obtain ⟨Av1, cv1, rfl, _, _, _, _⟩ := own_form hown1
        have hset : Byt wp (wp.setCell ⟨b, 3, none⟩ (.slice Av1 (j + 1) cv1)) := Byt.of_fr (Fr.setCell [b] wp ⟨b, 3, none⟩ _ (by simp)) hb6 (by decide)
        have hm : SoRel x3 b D q1 q2 (.slice Ad nd cd) (.int .i64 ((N : Int) + 2)) (wp.setCell ⟨b, 3, none⟩ (.slice Av1 (j + 1) cv1)) := by
          refine ⟨j + 1, cs ++ [[.string a, .slice Ae ne ce]], .slice Av1 (j + 1) cv1, Hj.out.2.1, by rw [Hj.out.2.2], ?_, ?_, hfr6.trans (Fr.setCell [b] wp ⟨b, 3, none⟩ _ (by simp)), ?_, ?_⟩
          · rw [Htk.out]
            exact (Hcs.out.mono fun _ _ h => h.keep (((Hbyt.out.trans hba).trans hbg).trans hset)).append ⟨_, rfl, Hdat.out.keep ((hba.trans hbg).trans hset)⟩
          · rw [List.flatten_append, List.flatten_singleton]
            exact own_keep hown1 fun q c hq => by
              rw [(Fr.setCell [b] wp ⟨b, 3, none⟩ _ (by simp)).block q (lt_of_heap hq) (by
                rintro hqb
                simp only [List.mem_singleton] at hqb
                subst hqb
                rw [hb6] at hq
                cases hq)]
              exact hq
          · rw [heap_setCell_at hb6]
            rfl
          · exact Hdv.out.keep (((Hbyt.out.trans hba).trans hbg).trans hset)
        have Hm := Lib.hid hm
        clear hm hown1 hgrow1 hnb hgg hb6 hfr6 hba hbg hset e1 e2 e3 f1 f2 f3
        with_reducible refine x_last ?_
        iterate 1 ((with_reducible refine x_any (v := ?_) ?_ ?_); rotate_left; (rintro _; go_simp; first | done | rfl | (constructor <;> rfl)))
        with_reducible refine x_three ?_
        with_reducible refine l_skip (w' := wp.setCell ⟨b, 3, none⟩ (.slice Av1 (j + 1) cv1)) ?_ ?_
        · go_simp
        with_reducible refine x_last ?_
        with_reducible refine x_end ?_
        simp only [Act.put, List.setIfInBounds_toArray, List.set_cons_zero, List.set_cons_succ]
        clear hc6 hz6 HD2 hcv
        have hN2 : IntKind.i64.wrap ((N : Int) + 2) = (N : Int) + 2 := by rw [IntKind.wrap_i64]; omega
        go_wp2_with fail
        refine ⟨Hm.out, ?_⟩
        simp only [intOf]
        omega
      · obtain ⟨N, hN⟩ : ∃ N : Nat, N = 2 * j + 4 := ⟨_, rfl⟩
        rw [← hN]
        have hNI : ¬ (N : Int) < D.length := by omega
        have hje : j = (filesB (D.drop 4)).length := by rw [filesB_len, List.length_drop]; omega
        have hfs : (filesB (D.drop 4)).take j = filesB (D.drop 4) := List.take_of_length_le (by omega)
        have HBy := Lib.hid (HB3.out.trans (Hfr.out.below (B := w.heap.size) HB3.out.size (by intro q hq; simp at hq; omega)))
        have HRR := Lib.hid ((Hfr.out.block w.heap.size (by omega) (by simp; omega)).trans HR3.out)
        have hcs2 := Hcs.out
        rw [hfs] at hcs2
        have Hcs2 := Lib.hid hcs2
        have hbw2 : b ≠ w.heap.size := by omega
        have Hje := Lib.hid hje
        clear hN hlt hfs hcs2 Hcs hje
        go_wp2_with (first
          | ((with_reducible refine at_load 60 ?_); refine wpList_load_row rfl 60 _ rfl b rfl 60 (sV q1 q2 (.slice Ad nd cd) (.slice Af j cf)).toArray (0, 0) _ Hb.out Tryd.underlying60 rfl sizeSold ?_)
          | ((with_reducible refine at_store 60 ?_); refine wpList_store_row rfl 60 _ _ rfl w.heap.size (sV q1 q2 (.slice Ad nd cd) (.slice Af j cf)).toArray rfl rfl 60 (sV ⟨#[]⟩ ⟨#[]⟩ nilV nilV).toArray HRR.out sizeSold rfl (sV_one rfl rfl) ?_))
        refine bodyPost_ret (res_cell2 rfl _ _ w.heap.size 60 (sV q1 q2 (.slice Ad nd cd) (.slice Af j cf)).toArray (0, 0) rfl (setRow_heap _ _ _ _ _ _ HRR.out) Tryd.underlying60 rfl sizeSold) rfl ?_
        have hbt : Byt wr (wr.setRow w.heap.size (sV q1 q2 (.slice Ad nd cd) (.slice Af j cf)).toArray) := fun k cur fr hk => by
          rw [setRow_other _ _ _ _ (by
            rintro rfl
            rw [HRR.out] at hk
            cases hk)]
          exact hk
        have hdv2 := Hdv.out.keep hbt
        obtain ⟨A8, c8, h8, hb8, _⟩ := hdv2
        simp only [Value.slice.injEq] at h8
        obtain ⟨rfl, rfl, rfl⟩ := h8
        have hown2 := own_keep (w' := wr.setRow w.heap.size (sV q1 q2 (.slice Ad (toL (D.getD 3 ⟨#[]⟩)).length cd) (.slice Af j cf)).toArray) Hown.out fun q c hq => by
          rw [setRow_other _ _ _ _ (by
            rintro rfl
            rw [HRR.out] at hq
            cases hq)]
          exact hq
        have hfo : FlOwn (wr.setRow w.heap.size (sV q1 q2 (.slice Ad (toL (D.getD 3 ⟨#[]⟩)).length cd) (.slice Af j cf)).toArray) x3.heap.size (.slice Af j cf) (filesB (D.drop 4)) := ⟨cs, Hcs2.out.mono fun _ _ h => (h.keep hbt).cfl, by rw [← Hje.out]; exact hown2⟩
        obtain ⟨A9, c9, h9, hf9⟩ := hfo.files
        simp only [Value.slice.injEq] at h9
        obtain ⟨rfl, hj9, rfl⟩ := h9
        refine ⟨_, soldOf D, by rw [Hp.out]; rfl, ⟨Ad, cd, Af, cf, ?_, hb8, hf9⟩, below_row HBy.out (Nat.le_refl _) _, fun _ => ⟨D, HD.out, rfl⟩, fun h => absurd Hp.out h⟩
        unfold soldOf
        rw [Hq.out.1, Hq.out.2.1]
        simp only
        rw [← hj9]
end Go.Proofs.YtbmnbhammganfaaDoor
