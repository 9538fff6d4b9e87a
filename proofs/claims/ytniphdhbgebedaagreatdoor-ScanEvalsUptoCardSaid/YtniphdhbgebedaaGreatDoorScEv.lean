/-
  Whether a constraint is true: Eval.
-/
import Derived.Test.YtniphdhbgebedaaGreatDoorScB2
namespace Go.Proofs.YtniphdhbgebedaaGreatDoor
open Go.RowKit

set_option linter.unusedSimpArgs false

set_option linter.unusedSimpArgs false

attribute [local go_sem] lt1 lt2 lt3 lt4 lt5 lt6

def hasT (T : List ByteArray) (t : List UInt8) : Bool := Lib.containsS T (mkS t)
abbrev txV (T : List ByteArray) : List Value := T.map Value.string
/-- tags handed in, and what asks for them -/
theorem is_any (w : World) (p : Nat) (A : Option Addr) (c : Nat) (T : List ByteArray) (hS : Sl w A c T.length 1 (txV T)) (hp : w.cell? ⟨p, 0, none⟩ = some (.slice A T.length c)) (hl : T.length ≤ 1048576) (t : List UInt8) :
    Calls Tryz.prog 35 #[.string (mkS t), .pointer (some ⟨p, 0, none⟩)] w fun e w' => e = .returned (.bool (hasT T t)) ∧ w' = w := by
  have hc : Calls Tryz.prog 36 #[.slice A T.length c, .string (mkS t)] w fun e w' => e = .returned (.bool (hasT T t)) ∧ w' = w := by
    by_cases h0 : T = []
    · subst h0
      exact Tryz.slices_Contains_string_empty A c (mkS t) w
    · have hpos := List.length_pos_iff.2 h0
      obtain ⟨b, o, rfl, hx⟩ := hS.cells hpos
      have := Tryz.slices_Contains_string b o T.length c T (mkS t) w (Nat.le_refl _) (by omega) (fun j hj => by
        rw [hx j (by omega)]
        simp [txV, List.getD_eq_getElem?_getD, List.getElem?_eq_getElem hj])
      rwa [List.take_length] at this
  have HC := Lib.hid hc
  generalize mkS t = S at *
  clear hc hS
  go_enter Tryz.func35, Tryz.ntmps35
  go_wp2_with fail
  refine HC.out.mono ?_
  rintro e y ⟨rfl, hy⟩
  rw [hy]
  go_wp2_with fail
  go_ret
  exact ⟨rfl, rfl⟩
def isV (p : Nat) : Value := .func (.func 35) #[] #[.pointer (some ⟨p, 0, none⟩)]
theorem is_enter (args : Array Value) (x : World) : (callFunc 35 args).run Tryz.prog x = .ok (.enter 35 args) x := call_ok _ _ Tryz.func35 (by kernel_rfl) (by kernel_rfl) args x
def EvRun (w : World) (p : Nat) (v : Value) (B : Bool) : Prop := ∃ f c, v = .func (.func f) #[] c ∧ (∀ (args : Array Value) (x : World), (callFunc f args).run Tryz.prog x = .ok (.enter f args) x) ∧ Calls Tryz.prog f (#[isV p] ++ c) w fun e w' => e = .returned (.bool B) ∧ w' = w
section
variable {w : World} {p : Nat} {has : List UInt8 → Bool} (his : ∀ t, Calls Tryz.prog 35 #[.string (mkS t), .pointer (some ⟨p, 0, none⟩)] w fun e w' => e = .returned (.bool (has t)) ∧ w' = w)
include his
theorem ev_tag (t : List UInt8) (q : Nat) (hq : w.heap[q]? = some (.cells #[.string (mkS t)] 9 (0, 0))) : EvRun w p (.func (.func 162) #[] #[rP q]) (has t) := by
  refine ⟨_, _, rfl, call_ok _ _ Tryz.func162 (by kernel_rfl) (by kernel_rfl), ?_⟩
  have hc := (blk_cells hq).1 0
  have HI := Lib.hid (his t)
  have hen := is_enter
  generalize mkS t = S at *
  clear his hq
  unfold isV rP
  have hc : w.cell? ⟨q, 0, none⟩ = some (.string S) := hc
  go_enter Tryz.func162, Tryz.ntmps162
  go_wp2_with fail
  refine HI.out.mono ?_
  rintro e y ⟨rfl, hy⟩
  rw [hy]
  go_wp2_with fail
  go_ret
  exact ⟨rfl, rfl⟩
end
theorem ev_not {w : World} {p q : Nat} {v : Value} {B : Bool} (h : EvRun w p v B) (hq : w.heap[q]? = some (.cells #[v] 73 (0, 0))) : EvRun w p (.func (.func 160) #[] #[rP q]) (!B) := by
  refine ⟨_, _, rfl, call_ok _ _ Tryz.func160 (by kernel_rfl) (by kernel_rfl), ?_⟩
  obtain ⟨f, c, rfl, hen, hcall⟩ := h
  have hc : w.cell? ⟨q, 0, none⟩ = some (.func (.func f) #[] c) := (blk_cells hq).1 0
  have HC := Lib.hid hcall
  obtain ⟨I, hI⟩ : ∃ I, isV p = I := ⟨_, rfl⟩
  rw [hI] at HC ⊢
  clear hcall hq
  unfold rP
  go_enter Tryz.func160, Tryz.ntmps160
  go_wp2_with fail
  refine HC.out.mono ?_
  rintro e y ⟨rfl, hy⟩
  rw [hy]
  cases B <;>
    (go_wp2_with fail
     go_ret
     exact ⟨rfl, rfl⟩)
theorem ev_and {w : World} {p q1 q2 : Nat} {v1 v2 : Value} {B1 B2 : Bool} (h1 : EvRun w p v1 B1) (h2 : EvRun w p v2 B2) (hq1 : w.heap[q1]? = some (.cells #[v1] 73 (0, 0))) (hq2 : w.heap[q2]? = some (.cells #[v2] 73 (0, 0))) :
    EvRun w p (.func (.func 139) #[] #[rP q1, rP q2]) (B1 && B2) := by
  refine ⟨_, _, rfl, call_ok _ _ Tryz.func139 (by kernel_rfl) (by kernel_rfl), ?_⟩
  obtain ⟨f1, c1, rfl, hen1, hcall1⟩ := h1
  obtain ⟨f2, c2, rfl, hen2, hcall2⟩ := h2
  have hc1 : w.cell? ⟨q1, 0, none⟩ = some (.func (.func f1) #[] c1) := (blk_cells hq1).1 0
  have hc2 : w.cell? ⟨q2, 0, none⟩ = some (.func (.func f2) #[] c2) := (blk_cells hq2).1 0
  have HC1 := Lib.hid hcall1
  have HC2 := Lib.hid hcall2
  obtain ⟨I, hI⟩ : ∃ I, isV p = I := ⟨_, rfl⟩
  rw [hI] at HC1 HC2 ⊢
  clear hcall1 hcall2 hq1 hq2
  unfold rP
  go_enter Tryz.func139, Tryz.ntmps139
  go_wp2_with fail
  refine HC1.out.mono ?_
  rintro e y ⟨rfl, hy⟩
  rw [hy]
  cases B1 with
  | false =>
    go_wp2_with fail
    go_ret
    exact ⟨rfl, rfl⟩
  | true =>
    go_wp2_with fail
    refine HC2.out.mono ?_
    rintro e y2 ⟨rfl, hy2⟩
    rw [hy2]
    go_wp2_with fail
    go_ret
    exact ⟨rfl, rfl⟩
theorem ev_or {w : World} {p q1 q2 : Nat} {v1 v2 : Value} {B1 B2 : Bool} (h1 : EvRun w p v1 B1) (h2 : EvRun w p v2 B2) (hq1 : w.heap[q1]? = some (.cells #[v1] 73 (0, 0))) (hq2 : w.heap[q2]? = some (.cells #[v2] 73 (0, 0))) :
    EvRun w p (.func (.func 109) #[] #[rP q1, rP q2]) (B1 || B2) := by
  refine ⟨_, _, rfl, call_ok _ _ Tryz.func109 (by kernel_rfl) (by kernel_rfl), ?_⟩
  obtain ⟨f1, c1, rfl, hen1, hcall1⟩ := h1
  obtain ⟨f2, c2, rfl, hen2, hcall2⟩ := h2
  have hc1 : w.cell? ⟨q1, 0, none⟩ = some (.func (.func f1) #[] c1) := (blk_cells hq1).1 0
  have hc2 : w.cell? ⟨q2, 0, none⟩ = some (.func (.func f2) #[] c2) := (blk_cells hq2).1 0
  have HC1 := Lib.hid hcall1
  have HC2 := Lib.hid hcall2
  obtain ⟨I, hI⟩ : ∃ I, isV p = I := ⟨_, rfl⟩
  rw [hI] at HC1 HC2 ⊢
  clear hcall1 hcall2 hq1 hq2
  unfold rP
  go_enter Tryz.func109, Tryz.ntmps109
  go_wp2_with fail
  refine HC1.out.mono ?_
  rintro e y ⟨rfl, hy⟩
  rw [hy]
  cases B1 with
  | true =>
    go_wp2_with fail
    go_ret
    exact ⟨rfl, rfl⟩
  | false =>
    go_wp2_with fail
    refine HC2.out.mono ?_
    rintro e y2 ⟨rfl, hy2⟩
    rw [hy2]
    go_wp2_with fail
    go_ret
    exact ⟨rfl, rfl⟩
theorem ev_any {w : World} {p b : Nat} {has : List UInt8 → Bool} (his : ∀ t, Calls Tryz.prog 35 #[.string (mkS t), .pointer (some ⟨p, 0, none⟩)] w fun e w' => e = .returned (.bool (has t)) ∧ w' = w) :
    ∀ {x : Ex} {v : Value}, ExAt w b x v → EvRun w p v (x.ev has) := by
  intro x
  induction x with
  | tag t => rintro v ⟨q, rfl, _, hq⟩; exact ev_tag his t q hq
  | not x ih => rintro v ⟨q, v', rfl, _, hq, hx⟩; exact ev_not (ih hx) hq
  | and x y ih1 ih2 => rintro v ⟨q1, q2, v1, v2, rfl, _, hq1, hx1, _, hq2, hx2⟩; exact ev_and (ih1 hx1) (ih2 hx2) hq1 hq2
  | or x y ih1 ih2 => rintro v ⟨q1, q2, v1, v2, rfl, _, hq1, hx1, _, hq2, hx2⟩; exact ev_or (ih1 hx1) (ih2 hx2) hq1 hq2
/-- what Eval tells -/
def EvIs (s : List UInt8) (has : List UInt8 → Bool) (B : Bool) (E : Int) : Prop := (1000 < s.length ∧ B = false ∧ E = 13) ∨ (s.length ≤ 1000 ∧ (¬ ∃ x, Whole s x) ∧ B = false ∧ E = 11) ∨ (s.length ≤ 1000 ∧ ∃ x, Whole s x ∧ B = x.ev has ∧ E = 0)
def EvPost (w : World) (s : List UInt8) (has : List UInt8 → Bool) (e : Ending) (w' : World) : Prop := ∃ B E, e = .returned (.tuple #[.bool B, .int .i64 E]) ∧ EvIs s has B E ∧ Below w.heap.size w w'
set_option maxRecDepth 100000 in
set_option maxHeartbeats 16000000 in
theorem eval_any (w : World) (s : List UInt8) (A : Option Addr) (c : Nat) (T : List ByteArray) (hS : Sl w A c T.length 1 (txV T)) (hl : T.length ≤ 1048576) :
    Calls Tryz.prog 17 #[.string (mkS s), .slice A T.length c] w (EvPost w s (hasT T)) := by
  obtain ⟨x0, hx0⟩ : ∃ x, x = w.alloc (.cells #[.slice A T.length c] 22) := ⟨_, rfl⟩
  have B0 : Below w.heap.size w x0 := by rw [hx0]; exact (Below.refl _ w).alloc (Nat.le_refl _) _
  have hgx : w.heap.size < x0.heap.size := by rw [hx0]; simp
  have ht : x0.cell? ⟨w.heap.size, 0, none⟩ = some (.slice A T.length c) := by rw [hx0]; exact (blk_cells (heap_alloc_new _ _)).1 0
  have hps := parse_any x0 s
  have HB0 := Lib.hid B0
  have HT := Lib.hid ht
  have HP := Lib.hid hps
  have HX := Lib.hid hx0
  have HS := Lib.hid hS
  obtain ⟨RP, hRP⟩ : ∃ RP, RP = EvPost w s (hasT T) := ⟨_, rfl⟩
  rw [← hRP]
  have HRP := Lib.hid hRP
  obtain ⟨S, hSS⟩ : ∃ S, mkS s = S := ⟨_, rfl⟩
  rw [hSS] at HP ⊢
  clear hx0 B0 ht hps hS hRP hSS
  go_enter Tryz.func17, Tryz.ntmps17
  go_wp2_with fail
  rw [← HX.out]
  refine HP.out.mono ?_
  rintro e y ⟨hB, ⟨h1, rfl⟩ | ⟨h1, h2, rfl⟩ | ⟨h1, x, v, b, h2, h3, rfl⟩⟩
  · have HF : Hid (RP (.returned (.tuple #[.bool false, .int .i64 13])) y) := Lib.hid (by rw [HRP.out]; exact ⟨_, _, rfl, .inl ⟨h1, rfl, rfl⟩, HB0.out.trans (hB.mono HB0.out.size)⟩)
    clear hB h1
    go_wp2_with fail
    exact HF.out
  · have HF : Hid (RP (.returned (.tuple #[.bool false, .int .i64 11])) y) := Lib.hid (by rw [HRP.out]; exact ⟨_, _, rfl, .inr (.inl ⟨h1, h2, rfl, rfl⟩), HB0.out.trans (hB.mono HB0.out.size)⟩)
    clear hB h1 h2
    go_wp2_with fail
    exact HF.out
  · have hBw := HB0.out.trans (hB.mono HB0.out.size)
    have hty : y.cell? ⟨w.heap.size, 0, none⟩ = some (.slice A T.length c) := below_cell hB hgx HT.out
    have hSy := HS.out.keep (Cells.of_below hBw)
    obtain ⟨f, cap, rfl, hen, hcall⟩ := ev_any (p := w.heap.size) (fun t => is_any y w.heap.size A c T hSy hty hl t) h3
    have HF : Hid (RP (.returned (.tuple #[.bool (x.ev (hasT T)), .int .i64 0])) y) := Lib.hid (by rw [HRP.out]; exact ⟨_, _, rfl, .inr (.inr ⟨h1, x, h2, rfl, rfl⟩), hBw⟩)
    unfold isV at hcall
    have HC := Lib.hid hcall
    obtain ⟨B, hBB⟩ : ∃ B, x.ev (hasT T) = B := ⟨_, rfl⟩
    rw [hBB] at HC HF
    clear hB h1 h2 h3 hBw hty hSy hcall hBB
    go_wp2_with fail
    refine HC.out.mono ?_
    rintro e y2 ⟨rfl, hy2⟩
    rw [hy2]
    go_wp2_with fail
    exact HF.out
end Go.Proofs.YtniphdhbgebedaaGreatDoor
