/-
  What is done with a token: the small closures.
-/
import Derived.Test.YtniphdhbgebedaaGreatDoorScMk
namespace Go.Proofs.YtniphdhbgebedaaGreatDoor
open Go.RowKit Go.Maps

set_option linter.unusedSimpArgs false

attribute [local go_sem] lt1 lt2 lt3 lt4 lt5 lt6

def tokA (t : Tok) : Value := .agg #[.int .u8 (t.kind.toNat : Int), .string (mkS t.text), .int .i64 (t.line : Nat)]
theorem cell_set_ne {w : World} {b i j g : Nat} {u v : Value} (h : w.cell? ⟨g, j, none⟩ = some v) (hne : b ≠ g) : (w.setCell ⟨b, i, none⟩ u).cell? ⟨g, j, none⟩ = some v := by
  have hb := World.block_lt_of_cell? w _ h
  exact (World.cell?_of_block ((Fr.setCell [b] w ⟨b, i, none⟩ u (by simp)).block g hb (by simp; omega))).trans h
set_option maxRecDepth 100000 in
set_option maxHeartbeats 8000000 in
theorem fault_any (w : World) (r : Nat) (a0 a1 a2 v ln er : Value) (k : Int) (s : ByteArray) (line e : Int) (h : w.heap[r]? = some (.cells #[a0, a1, a2, v, ln, er] 64 (0, 0))) :
    Calls Tryz.prog 59 #[.pointer (some ⟨r, 0, none⟩), .agg #[.int .u8 k, .string s, .int .i64 line], .int .i64 e] w fun en w' => (∃ u, en = .returned u) ∧ Hid (w'.heap[r]? = some (.cells #[a0, a1, a2, .nilFunc, .int .i64 line, .int .i64 e] 64 (0, 0))) ∧ Hid (Fr [r] w w') := by
  have hl := lt_of_heap h
  obtain ⟨x0, hx0⟩ : ∃ x, x = w.alloc (.cells #[.int .u8 k, .string s, .int .i64 line] 70) := ⟨_, rfl⟩
  obtain ⟨x, hx⟩ : ∃ x, x = x0.drew := ⟨_, rfl⟩
  have hr0 : x.heap[r]? = some (.cells #[a0, a1, a2, v, ln, er] 64 (0, 0)) := by rw [hx, hx0]; exact (Below.heap_alloc _ _ _ hl).trans h
  have ht0 : x.cell? ⟨w.heap.size, 2, none⟩ = some (.int .i64 line) := by rw [hx, hx0]; exact (blk_cells (heap_alloc_new w (.cells #[.int .u8 k, .string s, .int .i64 line] 70))).1 2
  have hF0 : Fr [r] w x := by rw [hx, hx0]; exact (Fr.alloc _ _ _).drewN 1
  have hne : r ≠ w.heap.size := by omega
  have e1 : (x.setCell ⟨r, 3, none⟩ .nilFunc).heap[r]? = some (.cells #[a0, a1, a2, .nilFunc, ln, er] 64 (0, 0)) := by rw [heap_setCell_at hr0]; rfl
  have f1 : x.frozen? ⟨r, 3, none⟩ = false := (blk_cells hr0).2.1 3
  have g1 : x.cell? ⟨r, 3, none⟩ = some v := (blk_cells hr0).1 3
  have t1 : (x.setCell ⟨r, 3, none⟩ .nilFunc).cell? ⟨w.heap.size, 2, none⟩ = some (.int .i64 line) := cell_set_ne ht0 hne
  obtain ⟨x1, hx1⟩ : ∃ y, y = x.setCell ⟨r, 3, none⟩ .nilFunc := ⟨_, rfl⟩
  have F1 : Fr [r] w x1 := by rw [hx1]; exact hF0.trans (Fr.setCell _ _ _ _ (by simp))
  rw [← hx1] at e1 t1
  have e2 : (x1.setCell ⟨r, 4, none⟩ (.int .i64 line)).heap[r]? = some (.cells #[a0, a1, a2, .nilFunc, .int .i64 line, er] 64 (0, 0)) := by rw [heap_setCell_at e1]; rfl
  have f2 : x1.frozen? ⟨r, 4, none⟩ = false := (blk_cells e1).2.1 4
  have g2 : x1.cell? ⟨r, 4, none⟩ = some ln := (blk_cells e1).1 4
  have t2 : (x1.setCell ⟨r, 4, none⟩ (.int .i64 line)).cell? ⟨w.heap.size, 2, none⟩ = some (.int .i64 line) := cell_set_ne t1 hne
  obtain ⟨x2, hx2⟩ : ∃ y, y = x1.setCell ⟨r, 4, none⟩ (.int .i64 line) := ⟨_, rfl⟩
  have F2 : Fr [r] w x2 := by rw [hx2]; exact F1.trans (Fr.setCell _ _ _ _ (by simp))
  rw [← hx2] at e2 t2
  have e3 : (x2.setCell ⟨r, 5, none⟩ (.int .i64 e)).heap[r]? = some (.cells #[a0, a1, a2, .nilFunc, .int .i64 line, .int .i64 e] 64 (0, 0)) := by rw [heap_setCell_at e2]; rfl
  have f3 : x2.frozen? ⟨r, 5, none⟩ = false := (blk_cells e2).2.1 5
  have g3 : x2.cell? ⟨r, 5, none⟩ = some er := (blk_cells e2).1 5
  have F3 : Fr [r] w (x2.setCell ⟨r, 5, none⟩ (.int .i64 e)) := F2.trans (Fr.setCell _ _ _ _ (by simp))
  obtain ⟨x3, hx3⟩ : ∃ y, y = x2.setCell ⟨r, 5, none⟩ (.int .i64 e) := ⟨_, rfl⟩
  rw [← hx3] at e3 F3
  have HE := Lib.hid e3
  have HF := Lib.hid F3
  have HX := Lib.hid hx
  have HX0 := Lib.hid hx0
  have HX1 := Lib.hid hx1
  have HX2 := Lib.hid hx2
  have HX3 := Lib.hid hx3
  clear h hr0 hF0 F1 F2 F3 e1 e2 e3 hx hx0 hx1 hx2 hx3
  go_enter Tryz.func59, Tryz.ntmps59
  go_wp2_with fail
  rw [← HX0.out]
  with_reducible refine g_mixx [(0, 1), (1, 1), (2, 1), (3, 1), (4, 0), (5, 1), (6, 1), (7, 1), (8, 2), (9, 1), (10, 1), (11, 2), (12, 1), (13, 1), (14, 3)] (fun w' => w'.cell? ⟨w.heap.size, 2, none⟩ = some (.int .i64 line)) 0 _ rfl (by kernel_rfl) (by kernel_rfl) ?_ ?_
  · rw [← HX.out]; exact ht0
  rw [← HX.out]
  intro OPS HD
  simp only [mixX, nthO, consX]
  iterate 4 ((with_reducible refine x_any (v := ?_) ?_ ?_); rotate_left; (rintro _; go_simp; first | done | rfl | (constructor <;> rfl)))
  iterate 1 ((with_reducible refine x_val (v := ?_) ?_ ?_ ?_); rotate_left; (rintro _ h; go_simp; first | done | rfl | (constructor <;> rfl)); exact ht0)
  iterate 3 ((with_reducible refine x_any (v := ?_) ?_ ?_); rotate_left; (rintro _; go_simp; first | done | rfl | (constructor <;> rfl)))
  with_reducible refine x_one ?_
  with_reducible refine l_skip (w' := x1) ?_ ?_
  · rw [HX1.out]; go_simp
  refine x_keep t1 ?_
  iterate 2 ((with_reducible refine x_any (v := ?_) ?_ ?_); rotate_left; (rintro _; go_simp; first | done | rfl | (constructor <;> rfl)))
  with_reducible refine x_one ?_
  with_reducible refine l_skip (w' := x2) ?_ ?_
  · rw [HX2.out]; go_simp
  refine x_keep t2 ?_
  iterate 2 ((with_reducible refine x_any (v := ?_) ?_ ?_); rotate_left; (rintro _; go_simp; first | done | rfl | (constructor <;> rfl)))
  with_reducible refine x_three ?_
  with_reducible refine l_skip (w' := x3) ?_ ?_
  · rw [HX3.out]; go_simp
  with_reducible refine x_last ?_
  with_reducible refine x_end ?_
  simp only [Act.put, List.setIfInBounds_toArray, List.set_cons_zero, List.set_cons_succ]
  go_end0
  exact ⟨⟨_, rfl⟩, HE, HF⟩
theorem call_ok (f : Nat) (fn : Func) (h : Tryz.prog.funcs[f]? = some fn) (h1 : (fn.name == "runtime.NumGoroutine") = false) (h2 : fn.body.isNone = false) (args : Array Value) (x : World) : (callFunc f args).run Tryz.prog x = .ok (.enter f args) x := by
  have n1 : fn.name ≠ "runtime.NumGoroutine" := beq_eq_false_iff_ne.1 h1
  have n2 : fn.body ≠ none := fun e => by rw [e] at h2; simp at h2
  simp [callFunc, h, n1, n2]
theorem mk_enter (m : Mk) (args : Array Value) (x : World) : (callFunc m.f args).run Tryz.prog x = .ok (.enter m.f args) x := by
  cases m with
  | ended => exact call_ok _ _ Tryz.func61 (by kernel_rfl) (by kernel_rfl) args x
  | between => exact call_ok _ _ Tryz.func85 (by kernel_rfl) (by kernel_rfl) args x
  | done => exact call_ok _ _ Tryz.func86 (by kernel_rfl) (by kernel_rfl) args x
  | imports => exact call_ok _ _ Tryz.func127 (by kernel_rfl) (by kernel_rfl) args x
  | inside => exact call_ok _ _ Tryz.func155 (by kernel_rfl) (by kernel_rfl) args x
  | behind => exact call_ok _ _ Tryz.func172 (by kernel_rfl) (by kernel_rfl) args x
theorem mk_any (m : Mk) (w : World) (r : Nat) : Calls Tryz.prog m.f #[rP r] w (MkPost w r m) := by
  cases m with
  | ended => exact ended_any w r
  | between => exact between_any w r
  | done => exact done_any w r
  | imports => exact imports_any w r
  | inside => exact inside_any w r
  | behind => exact behind_any w r
theorem MkAt.keep {w w' : World} {P P' : Nat → Prop} {r : Nat} {v : Value} {m : Mk} (h : MkAt w P r m v) (hk : KeepP P w w') (hP : ∀ k, k < w.heap.size → P k → P' k) : MkAt w' P' r m v := by
  unfold MkAt at h ⊢
  split at h
  · exact h
  · exact StepAt.keep h hk hP
def FnV (v : Value) : Prop := v = .nilFunc ∨ ∃ f c, v = .func (.func f) #[] c
theorem FnV.one {v : Value} (h : FnV v) : v.oneCell' = true := by
  rcases h with rfl | ⟨f, c, rfl⟩ <;> rfl
theorem StepAt.form {w : World} {P : Nat → Prop} {r : Nat} {v : Value} {st : St} (h : StepAt w P r st v) : FnV v := by
  unfold StepAt at h
  split at h
  · obtain ⟨p, rfl, _⟩ := h; exact .inr ⟨_, _, rfl⟩
  · obtain ⟨_, _, _, _, rfl, _⟩ := h; exact .inr ⟨_, _, rfl⟩
theorem MkAt.form {w : World} {P : Nat → Prop} {r : Nat} {v : Value} {m : Mk} (h : MkAt w P r m v) : FnV v := by
  unfold MkAt at h
  split at h
  · exact .inl h
  · exact StepAt.form h
/-- the reader's block, its step's cell apart -/
def RdB (w : World) (r : Nat) (a0 a1 a2 v ln er : Value) : Prop := w.heap[r]? = some (.cells #[a0, a1, a2, v, ln, er] 64 (0, 0))
theorem RdB.set {w : World} {r : Nat} {a0 a1 a2 v ln er : Value} (h : RdB w r a0 a1 a2 v ln er) (v' : Value) : RdB (w.setCell ⟨r, 3, none⟩ v') r a0 a1 a2 v' ln er := by
  unfold RdB; rw [heap_setCell_at h]; rfl
theorem run_set {w : World} {r i : Nat} {cs : Array Value} {t : TypeId} (h : w.heap[r]? = some (.cells cs t (0, 0))) (hi : i < cs.size) (v : Value) (hv : v.oneCell' = true) : (store ⟨r, i, none⟩ v).run Tryz.prog w = .ok () (w.setCell ⟨r, i, none⟩ v) := by
  rw [run_store _ _ _ _ _ hv]
  have h1 : w.cell? ⟨r, i, none⟩ = some cs[i] := by rw [(blk_cells h).1 i]; simp [hi]
  have h2 : w.frozen? ⟨r, i, none⟩ = false := (blk_cells h).2.1 i
  simp [stored, h1, h2]
theorem below_cell {B : Nat} {w w' : World} (h : Below B w w') {g : Nat} {j : Nat} {v : Value} (hg : g < B) (hc : w.cell? ⟨g, j, none⟩ = some v) : w'.cell? ⟨g, j, none⟩ = some v := (World.cell?_of_block (h.block g hg)).trans hc
/-- the step's cell is stored over, behind a call that made the new step -/
theorem set_fin {w x y : World} {r : Nat} {a0 a1 a2 v ln er : Value} (hw : Below w.heap.size w x) (hB : Below x.heap.size x y) (h : RdB w r a0 a1 a2 v ln er) (v' : Value) :
    (y.cell? ⟨r, 3, none⟩ = some v ∧ y.frozen? ⟨r, 3, none⟩ = false) ∧ RdB (y.setCell ⟨r, 3, none⟩ v') r a0 a1 a2 v' ln er ∧ Fr [r] w (y.setCell ⟨r, 3, none⟩ v') ∧ KeepP (fun k => x.heap.size ≤ k) y (y.setCell ⟨r, 3, none⟩ v') := by
  have hl := lt_of_heap h
  have hy : RdB y r a0 a1 a2 v ln er := (hB.block r (Nat.lt_of_lt_of_le hl hw.size)).trans ((hw.block r hl).trans h)
  have hF : Fr [r] y (y.setCell ⟨r, 3, none⟩ v') := Fr.setCell _ _ _ _ (by simp)
  refine ⟨⟨(blk_cells hy).1 3, (blk_cells hy).2.1 3⟩, hy.set v', ((Fr.of_below hw _).trans (Fr.of_below hB _)).trans hF, KeepP.of_fr hF fun k hk => ?_⟩
  have := hw.size
  simp
  omega
set_option maxRecDepth 100000 in
set_option maxHeartbeats 8000000 in
theorem to1_any (w : World) (r p q : Nat) (m : Mk) (A : Value) (hA : ∃ cs : Array Value, A = .agg cs) (a0 a1 a2 v ln er : Value) (h : RdB w r a0 a1 a2 v ln er) (hp : w.heap[p]? = some (.cells #[rP r] 61 (0, 0))) (hq : w.heap[q]? = some (.cells #[.func (.func m.f) #[] #[]] 65 (0, 0))) :
    Calls Tryz.prog 125 #[A, rP q, rP p] w fun en w' => (∃ u, en = .returned u) ∧ ∃ v', Hid (RdB w' r a0 a1 a2 v' ln er) ∧ Hid (Fr [r] w w') ∧ Hid (MkAt w' (fun k => w.heap.size ≤ k) r m v') := by
  obtain ⟨cs, rfl⟩ := hA
  have hl := lt_of_heap h
  have hlp := lt_of_heap hp
  have hlq := lt_of_heap hq
  obtain ⟨x0, hx0⟩ : ∃ x, x = w.alloc (.cells cs 70) := ⟨_, rfl⟩
  have B0 : Below w.heap.size w x0.drew := by rw [hx0]; exact below_drewN ((Below.refl _ w).alloc (Nat.le_refl _) _) 1
  have hp0 : x0.drew.cell? ⟨p, 0, none⟩ = some (.pointer (some ⟨r, 0, none⟩)) := (blk_cells ((B0.block p hlp).trans hp)).1 0
  have hq0 : x0.drew.cell? ⟨q, 0, none⟩ = some (.func (.func m.f) #[] #[]) := (blk_cells ((B0.block q hlq).trans hq)).1 0
  have hcall := (mk_any m x0.drew r)
  have HX0 := Lib.hid hx0
  have HB0 := Lib.hid B0
  have H := Lib.hid h
  have HC := Lib.hid hcall
  clear hx0 B0 h hp hq hcall
  unfold rP
  go_enter Tryz.func125, Tryz.ntmps125
  go_wp2_with fail
  rw [← HX0.out]
  with_reducible refine g_mixx [(0, 0), (1, 0), (2, 0), (3, 2), (4, 1), (5, 1), (6, 3)] (fun w' => w'.cell? ⟨p, 0, none⟩ = some (.pointer (some ⟨r, 0, none⟩)) ∧ w'.cell? ⟨q, 0, none⟩ = some (.func (.func m.f) #[] #[])) 0 _ rfl (by kernel_rfl) (by kernel_rfl) ?_ ?_
  · exact ⟨hp0, hq0⟩
  intro OPS HD
  simp only [mixX, nthO, consX]
  iterate 3 ((with_reducible refine x_val (v := ?_) ?_ ?_ ?_); rotate_left; (rintro _ ⟨h1, h2⟩; go_simp; first | done | rfl | (constructor <;> rfl)); exact ⟨hp0, hq0⟩)
  with_reducible refine x_one ?_
  refine l_call (f := m.f) (args := #[rP r]) ?_ (HC.out.mono ?_)
  · have he := mk_enter m
    go_simp
    rfl
  rintro e y ⟨v', rfl, hB, hM⟩
  refine ⟨_, rfl, ?_⟩
  have hx := HX0.out
  have hsz : w.heap.size ≤ x0.drew.heap.size := HB0.out.size
  have hlpx : p < x0.drew.heap.size := by omega
  have hlqx : q < x0.drew.heap.size := by omega
  refine x_keep ⟨below_cell hB hlpx hp0, below_cell hB hlqx hq0⟩ ?_
  obtain ⟨⟨hst, hsf⟩, hR, hF, hK⟩ := set_fin HB0.out hB H.out v'
  have hform := hM.form
  have HR := Lib.hid hR
  have HF := Lib.hid hF
  have HM := Lib.hid (hM.keep (P' := fun k => w.heap.size ≤ k) hK fun k _ hk => Nat.le_trans hsz hk)
  clear hR hF hK hM hB hx
  iterate 2 ((with_reducible refine x_any (v := ?_) ?_ ?_); rotate_left; (rintro _; go_simp; first | done | rfl | (constructor <;> rfl)))
  with_reducible refine x_three ?_
  with_reducible refine l_skip (w' := y.setCell ⟨r, 3, none⟩ v') ?_ ?_
  · rcases hform with rfl | ⟨f, c, rfl⟩ <;> go_simp
  with_reducible refine x_last ?_
  with_reducible refine x_end ?_
  simp only [Act.put, List.setIfInBounds_toArray, List.set_cons_zero, List.set_cons_succ]
  go_end0
  exact ⟨⟨_, rfl⟩, v', HR, HF, HM⟩
/-! ### the reader in memory -/
/-- only blocks that O has are turned -/
structure FrP (O : Nat → Prop) (w w' : World) : Prop where
  os : w'.os = w.os
  tape : w'.tape = w.tape
  output : w'.output = w.output
  size : w.heap.size ≤ w'.heap.size
  block : ∀ k, k < w.heap.size → ¬ O k → w'.heap[k]? = w.heap[k]?
theorem FrP.of_fr {S : List Nat} {O : Nat → Prop} {w w' : World} (h : Fr S w w') (hS : ∀ k, k ∈ S → O k) : FrP O w w' := ⟨h.os, h.tape, h.output, h.size, fun k hk hO => h.block k hk fun hm => hO (hS k hm)⟩
theorem FrP.refl (O : Nat → Prop) (w : World) : FrP O w w := ⟨rfl, rfl, rfl, Nat.le_refl _, fun _ _ _ => rfl⟩
theorem FrP.trans {O O' : Nat → Prop} {a b c : World} (h : FrP O a b) (k : FrP O' b c) (hO : ∀ k, O' k → O k ∨ a.heap.size ≤ k) : FrP O a c :=
  ⟨k.os.trans h.os, k.tape.trans h.tape, k.output.trans h.output, Nat.le_trans h.size k.size, fun j hj hn => (k.block j (Nat.lt_of_lt_of_le hj h.size) fun h' => by rcases hO j h' with h1 | h1; exact hn h1; omega).trans (h.block j hj hn)⟩
def strs (l : List (List UInt8)) : List Value := l.map fun x => .string (mkS x)
theorem strs_len (l : List (List UInt8)) : (strs l).length = l.length := by simp [strs]
structure RdOwn (w : World) (O P : Nat → Prop) (r : Nat) (im : List (List UInt8)) (sl : Value) : Prop where
  own : O r
  lt : ∀ k, O k → k < w.heap.size
  row : w.ownsRow 0 9 1 sl im.length (strs im)
  blk : ∀ b, sl.ownBlock = some b → O b ∧ b ≠ r ∧ ¬ P b
  pr : ¬ P r
  po : ∀ k, P k → O k
def RdC (w : World) (r : Nat) (d : Src) (sl v : Value) (line : Nat) (e : Int) : Prop := RdB w r (.string (mkS d.pkg)) sl (.string (mkS d.rule)) v (.int .i64 (line : Nat)) (.int .i64 e)
def StOr (w : World) (P : Nat → Prop) (r : Nat) (so : Option St) (v : Value) : Prop := match so with
  | some st => StepAt w P r st v
  | none => v = .nilFunc
theorem StOr.keep {w w' : World} {P P' : Nat → Prop} {r : Nat} {v : Value} {so : Option St} (h : StOr w P r so v) (hk : KeepP P w w') (hP : ∀ k, k < w.heap.size → P k → P' k) : StOr w' P' r so v := by
  cases so with
  | none => exact h
  | some st => exact StepAt.keep h hk hP
theorem StOr.form {w : World} {P : Nat → Prop} {r : Nat} {v : Value} {so : Option St} (h : StOr w P r so v) : FnV v := by
  cases so with
  | none => exact .inl h
  | some st => exact StepAt.form h
def RdSt (w : World) (O : Nat → Prop) (r : Nat) (d : Src) (so : Option St) (line : Nat) (e : Int) : Prop :=
  ∃ P sl v, RdOwn w O P r d.imports sl ∧ RdC w r d sl v line e ∧ StOr w P r so v
theorem RdSt.keep {w w' : World} {O : Nat → Prop} {r : Nat} {d : Src} {so : Option St} {line : Nat} {e : Int} (h : RdSt w O r d so line e) (hs : w.heap.size ≤ w'.heap.size) (hk : ∀ k, O k → w'.heap[k]? = w.heap[k]?) : RdSt w' O r d so line e := by
  obtain ⟨P, sl, v, hO, hC, hS⟩ := h
  refine ⟨P, sl, v, ⟨hO.own, fun k h => Nat.lt_of_lt_of_le (hO.lt k h) hs, ?_, hO.blk, hO.pr, hO.po⟩, (hk r hO.own).trans hC, hS.keep (fun k hp _ => hk k (hO.po k hp)) fun _ _ h => h⟩
  refine ⟨hO.row.1, ?_⟩
  rcases hO.row.2 with hn | ⟨g, cap, cur, rfl, hb, hg, rest⟩
  · exact .inl hn
  · exact .inr ⟨g, cap, cur, rfl, hb, (hk g (hO.blk g (by simp [Value.ownBlock])).1).trans hg, rest⟩
def RdNext (x : Res) (w : World) (O : Nat → Prop) (r : Nat) : Prop := match x with
  | .go st d => RdSt w O r d (some st) 0 0
  | .done d => RdSt w O r d none 0 0
  | .fault line e d => RdSt w O r d none line e
def RdPost (w : World) (O : Nat → Prop) (r : Nat) (x : Res) (en : Ending) (w' : World) : Prop := (∃ u, en = .returned u) ∧ FrP O w w' ∧ ∃ O' : Nat → Prop, (∀ k, O' k → O k ∨ w.heap.size ≤ k) ∧ RdNext x w' O' r
theorem RdOwn.step {w w' : World} {O P : Nat → Prop} {r : Nat} {im : List (List UInt8)} {sl : Value} (h : RdOwn w O P r im sl) (hF : Fr [r] w w') (P' : Nat → Prop) (hP : ∀ k, P' k → P k ∨ w.heap.size ≤ k) :
    RdOwn w' (fun k => O k ∨ (w.heap.size ≤ k ∧ k < w'.heap.size)) (fun k => P' k ∧ k < w'.heap.size) r im sl := by
  refine ⟨.inl h.own, ?_, ?_, ?_, ?_, ?_⟩
  · rintro k (hk | hk)
    · exact Nat.lt_of_lt_of_le (h.lt k hk) hF.size
    · exact hk.2
  · refine ⟨h.row.1, ?_⟩
    rcases h.row.2 with hn | ⟨g, cap, cur, rfl, hb, hg, rest⟩
    · exact .inl hn
    · exact .inr ⟨g, cap, cur, rfl, hb, (hF.block g (lt_of_heap hg) (by simp; exact (h.blk g (by simp [Value.ownBlock])).2.1)).trans hg, rest⟩
  · intro b hb
    obtain ⟨h1, h2, h3⟩ := h.blk b hb
    refine ⟨.inl h1, h2, fun hp => ?_⟩
    rcases hP b hp.1 with h4 | h4
    · exact h3 h4
    · have := h.lt b h1; omega
  · intro hp
    rcases hP r hp.1 with h4 | h4
    · exact h.pr h4
    · have := h.lt r h.own; omega
  · intro k hk
    rcases hP k hk.1 with h4 | h4
    · exact .inl (h.po k h4)
    · exact .inr ⟨h4, hk.2⟩
theorem rd_end {w w' : World} {O P : Nat → Prop} {r : Nat} {d d' : Src} {sl v' : Value} {so : Option St} {line : Nat} {e : Int} {x : Res} {en : Ending} {P' : Nat → Prop} (h : RdOwn w O P r d.imports sl) (hi : d'.imports = d.imports) (hF : Fr [r] w w') (hP : ∀ k, P' k → P k ∨ w.heap.size ≤ k)
    (hC : RdC w' r d' sl v' line e) (hS : StOr w' P' r so v') (hx : ∀ O', RdNext x w' O' r = RdSt w' O' r d' so line e) (he : ∃ u, en = .returned u) : RdPost w O r x en w' := by
  refine ⟨he, FrP.of_fr hF (fun k hk => by simp at hk; rw [hk]; exact h.own), fun k => O k ∨ (w.heap.size ≤ k ∧ k < w'.heap.size), ?_, ?_⟩
  · rintro k (hk | hk)
    · exact .inl hk
    · exact .inr hk.1
  · rw [hx]
    exact ⟨_, sl, v', by rw [hi]; exact h.step hF P' hP, hC, hS.keep (P' := fun k => P' k ∧ k < w'.heap.size) (fun _ _ _ => rfl) fun k hk hp => ⟨hp, hk⟩⟩
theorem MkAt.stor {w : World} {P : Nat → Prop} {r : Nat} {v : Value} {m : Mk} (h : MkAt w P r m v) : StOr w P r (mkSt m) v := by
  cases m <;> exact h
/-- v is called with a token, and what comes is x -/
def HdRun (w : World) (O : Nat → Prop) (r : Nat) (v : Value) (t : Tok) (x : Res) : Prop :=
  ∃ f cap, v = .func (.func f) #[] cap ∧ (∀ (args : Array Value) (y : World), (callFunc f args).run Tryz.prog y = .ok (.enter f args) y) ∧ Calls Tryz.prog f (#[tokA t] ++ cap) w (RdPost w O r x)
theorem stay_any (w : World) (A : Value) (hA : ∃ cs : Array Value, A = .agg cs) : Calls Tryz.prog 57 #[A] w fun en w' => (∃ u, en = .returned u) ∧ Below w.heap.size w w' := by
  obtain ⟨cs, rfl⟩ := hA
  go_enter Tryz.func57, Tryz.ntmps57
  go_wp2_with fail
  go_end0
  exact ⟨⟨_, rfl⟩, (Below.refl _ w).alloc (Nat.le_refl _) _⟩
section
variable {w : World} {O P : Nat → Prop} {r : Nat} {d : Src} {sl vs : Value} {st : St} (t : Tok) (hO : RdOwn w O P r d.imports sl) (hC : RdC w r d sl vs 0 0) (hS : StepAt w P r st vs)
include hO hC
theorem hd_stay (hS : StepAt w P r st vs) : HdRun w O r (.func (.func 57) #[] #[]) t (.go st d) := by
  refine ⟨_, _, rfl, call_ok _ _ Tryz.func57 (by kernel_rfl) (by kernel_rfl), (stay_any w (tokA t) ⟨_, rfl⟩).mono ?_⟩
  rintro en w' ⟨hu, hB⟩
  exact rd_end (P' := P) (so := some st) hO rfl (Fr.of_below hB _) (fun k hk => .inl hk) ((hB.block r (lt_of_heap hC)).trans hC) (StepAt.keep hS (KeepP.of_below hB) fun _ _ h => h) (fun _ => rfl) hu
theorem hd_to {m : Mk} {p q : Nat} (hp : FBox w P p m) (hq : Box w P q r) : HdRun w O r (.func (.func 125) #[] #[rP p, rP q]) t (match mkSt m with
    | none => .done d
    | some s => .go s d) := by
  refine ⟨_, _, rfl, call_ok _ _ Tryz.func125 (by kernel_rfl) (by kernel_rfl), (to1_any w r q p m (tokA t) ⟨_, rfl⟩ _ _ _ _ _ _ hC hq.2 hp.2).mono ?_⟩
  rintro en w' ⟨hu, v', hR, hF, hM⟩
  refine rd_end (P' := fun k => w.heap.size ≤ k) (so := mkSt m) (d' := d) hO rfl hF.out (fun k hk => .inr hk) hR.out hM.out.stor ?_ hu
  intro O'
  cases mkSt m <;> rfl
end
end Go.Proofs.YtniphdhbgebedaaGreatDoor
