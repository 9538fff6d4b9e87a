/-
  slices.Clone of changes; cuts of them.
-/
import Derived.Test.YtaolddgnannojaaDoorFsRename
import Derived.Lib.BufferMore
namespace Go.Proofs.YtaolddgnannojaaDoor
open Go.RowKit Go.Maps

attribute [local go_sem] lt1 lt2 lt3 lt4 lt5 lt6

theorem build0C : ∀ w : World, (Instr.buildSlice 61 0 #[]).run Tryd.prog w = .ok (.slice (some ⟨w.heap.size, 0, none⟩) 0 0) (w.alloc (.cells #[] 77)) := fun _ => by kernel_rfl
def ClPost (w : World) (n : Nat) (xs : List Value) (e : Ending) (w' : World) : Prop := ∃ v, e = .returned v ∧ w'.ownsRow w.heap.size 77 3 v n xs ∧ Below w.heap.size w w'
set_option maxHeartbeats 4000000 in
set_option maxRecDepth 10000 in
theorem clone_any (w : World) (A : Option Addr) (c n : Nat) (xs : List Value) (h : Sl w A c n 3 xs) (hone : ∀ u ∈ xs, u.oneCell' = true) (hn : n ≤ 1099511627776) :
    Calls Tryd.prog 57 #[.slice A n c] w (ClPost w n xs) := by
  obtain ⟨iC, hiC, hzC, hsC, hbC⟩ := info_parts infoChange
  have hb0 := build0C
  have hnil : ∀ W, (binOp .eql 61 (.slice none 0 0) (.slice none 0 0)).run Tryd.prog W = .ok (.bool true) W := fun W => Lib.run_eql_slice_nil_nil W _ _ Tryd.underlying61
  have hnil2 : ∀ (W : World) (a : Addr) (n c : Nat), (binOp .eql 61 (.slice (some a) n c) (.slice none 0 0)).run Tryd.prog W = .ok (.bool false) W := fun W a n c => Lib.run_eql_slice_some_nil W a n c Tryd.underlying61
  cases A with
  | none =>
    obtain ⟨rfl, rfl⟩ := h.nil rfl
    have hx : xs = [] := List.eq_nil_of_length_eq_zero (by rw [h.len])
    go_enter Tryd.func57, Tryd.ntmps57
    go_wp2_with fail
    go_ret
    refine ⟨.slice none 0 0, rfl, ?_, Below.refl _ _⟩
    rw [hx]
    exact World.ownsRow_nil w _ _ _
  | some a =>
    have H := Lib.hid h
    clear h
    go_enter Tryd.func57, Tryd.ntmps57
    have hown : (w.alloc (.cells #[] 77)).ownsRow w.heap.size 77 3 (.slice (some ⟨w.heap.size, 0, none⟩) 0 0) 0 [] := World.ownsRow_lit (cs := #[]) (n := 0) w (Nat.le_refl _) (by unfold maxLen; omega) rfl
    have hnews : ∀ j u, xs[j]? = some u → (w.alloc (.cells #[] 77)).cell? (a.add j) = some u := fun j u hu => by
      have hj := (List.getElem?_eq_some_iff.1 hu).1
      rw [H.out.len] at hj
      obtain ⟨b, o, hab, hc⟩ := H.out.cells (by omega)
      cases hab
      rw [Addr.add_lit]
      exact Cells.alloc _ _ _ _ ((hc j hj).trans hu)
    go_wp2_with (first | (at_builtin; refine wpList_append_own _ rfl _ _ 61 rfl w.heap.size 77 iC (.agg #[.string ⟨#[]⟩, .int .i64 0, .nilFunc]) 3 32 Tryd.underlying61 hiC hzC hsC hbC rfl (by omega) _ 0 [] rfl hown a n c xs rfl H.out.len hnews hone (by unfold maxLen; omega) (by omega) (by simp) ?_))
    intro v' w' ho hgr _
    have hbl : Below w.heap.size w w' := ((Below.refl w.heap.size w).alloc (Nat.le_refl _) _).grown hgr (by simp) (by intro k hk; simp [Value.ownBlock] at hk; omega)
    obtain ⟨A', c', hv⟩ := own_formT ho
    have Hfin : Hid (ClPost w n xs (.returned (.slice A' n c')) w') := Lib.hid (by rw [← hv]; exact ⟨v', rfl, ho, hbl⟩)
    rw [hv]
    clear ho hgr hbl hv H hnews hown
    go_wp2_with fail
    go_ret
    exact Hfin.out
/-- where 'l[n:]' begins -/
def cutC (A : Option Addr) (c l : Nat) : Option Addr := if c = l then A else A.map (·.add (l * 3))
theorem slice_loC (A : Option Addr) (n c l : Nat) (h : l ≤ n) (w : World) : (Instr.slice 61 (.slice A n c) (some (.int .i64 (l : Int))) none none).run Tryd.prog w = .ok (.slice (cutC A c l) (n - l) (c - l)) w := by
  have e : Tryd.prog.elem 61 = 77 := by kernel_rfl
  have ht : Tryd.prog.underlying 61 = some (.slice (Tryd.prog.elem 61)) := by rw [e]; exact Tryd.underlying61
  obtain ⟨i0, hi0, hz0, hz1, hz2⟩ := info_parts infoChange
  rw [run_slice_l (w := w) (ht := ht) (kl := .i64) (h0 := by omega) (h1 := by omega), e]
  simp [sizeOf, typeInfo, hi0, hz1, sliced, cutC]
theorem slice_hiC (A : Option Addr) (n c l : Nat) (h : l ≤ c) (w : World) : (Instr.slice 61 (.slice A n c) none (some (.int .i64 (l : Int))) none).run Tryd.prog w = .ok (.slice A l c) w := by
  have e : Tryd.prog.elem 61 = 77 := by kernel_rfl
  have ht : Tryd.prog.underlying 61 = some (.slice (Tryd.prog.elem 61)) := by rw [e]; exact Tryd.underlying61
  obtain ⟨i0, hi0, hz0, hz1, hz2⟩ := info_parts infoChange
  rw [run_slice_h (w := w) (ht := ht) (kh := .i64) (h0 := by omega) (h2 := by omega), e]
  simp [sizeOf, typeInfo, hi0, hz1, sliced]
  intro _
  cases A with
  | none => rfl
  | some a => simp [Addr.add]
theorem Sl.cutC {w : World} {A : Option Addr} {c n l : Nat} {xs : List Value} (h : Sl w A c n 3 xs) (hl : l ≤ n) : Sl w (cutC A c l) (c - l) (n - l) 3 (xs.drop (l * 3)) := by
  have h1 := h.le
  have h2 := h.big
  refine ⟨by rw [List.length_drop, h.len]; omega, ?_, by omega, by omega, fun hn => ?_⟩
  · intro hA
    unfold Go.Proofs.YtaolddgnannojaaDoor.cutC at hA
    split at hA
    · omega
    · cases A with
      | none => have := h.nil rfl; omega
      | some a => simp at hA
  · obtain ⟨b, o, rfl, hx⟩ := h.cells (by omega)
    refine ⟨b, o + l * 3, ?_, fun j hj => ?_⟩
    · unfold Go.Proofs.YtaolddgnannojaaDoor.cutC
      rw [if_neg (by omega)]
      simp [Addr.add]
    · rw [Nat.add_assoc, hx (l * 3 + j) (by omega), List.getElem?_drop]
end Go.Proofs.YtaolddgnannojaaDoor
