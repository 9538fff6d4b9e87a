/-
  Files by rising names, the package's, where there is one at most. (Printed by wip/abexp.py.)
-/
import Derived.Test.YtdmladdpbdcpjaaDoorArkByName
namespace Go.Proofs.YtdmladdpbdcpjaaDoor
open Go.RowKit

set_option linter.unusedSimpArgs false

attribute [local go_sem] lt1 lt2 lt3 lt4 lt5 lt6

theorem all2_of {α β : Type} {Q : α → β → Prop} : ∀ {l : List α} {m : List β}, l.length = m.length → (∀ (i : Nat) a b, l[i]? = some a → m[i]? = some b → Q a b) → All2 Q l m
  | [], [], _, _ => trivial
  | a :: l, b :: m, h, hq => ⟨hq 0 a b rfl rfl, all2_of (by simpa using h) fun i x y hx hy => hq (i + 1) x y (by simpa using hx) (by simpa using hy)⟩
  | [], _ :: _, h, _ => by simp at h
  | _ :: _, [], h, _ => by simp at h
/-- a slice of files as a row of cells -/
theorem FlAt.row {w : World} {A : Option Addr} {c : Nat} {l : List Fl} (h : FlAt w A c l) : ∃ cs, All2 (CFl w) cs l ∧ ∀ ad, A = some ad → ∀ j u, cs.flatten[j]? = some u → w.cell? (ad.add j) = some u := by
  by_cases hl : l = []
  · subst hl
    exact ⟨[], trivial, fun _ _ j u hu => by simp at hu⟩
  · obtain ⟨b, o, rfl, hx⟩ := h.cells (List.length_pos_iff.2 hl)
    have hcl : ((List.range l.length).map fun i => [(w.cell? ⟨b, o + i * 2, none⟩).getD undef, (w.cell? ⟨b, o + i * 2 + 1, none⟩).getD undef]).length = l.length := by simp
    refine ⟨(List.range l.length).map fun i => [(w.cell? ⟨b, o + i * 2, none⟩).getD undef, (w.cell? ⟨b, o + i * 2 + 1, none⟩).getD undef], all2_of hcl fun i a p ha hp => ?_, fun ad had j u hu => ?_⟩
    · obtain ⟨h1, Ai, ci, h2, h3⟩ := hx i p hp
      rw [List.getElem?_map] at ha
      have hi : i < l.length := (List.getElem?_eq_some_iff.1 hp).1
      rw [List.getElem?_range hi] at ha
      simp only [Option.map_some, Option.some.injEq, h1, h2, Option.getD_some] at ha
      exact ⟨Ai, ci, ha.symm, h3⟩
    · simp only [Option.some.injEq] at had
      subst had
      rw [Addr.add_lit]
      have hk : ∀ c ∈ ((List.range l.length).map fun i => [(w.cell? ⟨b, o + i * 2, none⟩).getD undef, (w.cell? ⟨b, o + i * 2 + 1, none⟩).getD undef]), c.length = 2 := by
        intro c hc
        obtain ⟨i, _, rfl⟩ := List.mem_map.1 hc
        rfl
      have hj : j < l.length * 2 := by
        have := (List.getElem?_eq_some_iff.1 hu).1
        rw [flat_len hk, hcl] at this
        exact this
      have hi : j / 2 < l.length := by omega
      obtain ⟨h1, Ai, ci, h2, _⟩ := hx (j / 2) _ (getD_some hi)
      have hci : ((List.range l.length).map fun i => [(w.cell? ⟨b, o + i * 2, none⟩).getD undef, (w.cell? ⟨b, o + i * 2 + 1, none⟩).getD undef])[j / 2]? = some [Value.string (l.getD (j / 2) noFl).1, .slice Ai (l.getD (j / 2) noFl).2.length ci] := by
        rw [List.getElem?_map, List.getElem?_range hi]
        simp only [Option.map_some, h1, h2, Option.getD_some]
      have hf := flat_at hk hci (j := j % 2) (by omega)
      rw [show j / 2 * 2 + j % 2 = j by omega] at hf
      rw [hf] at hu
      rcases (by omega : j % 2 = 0 ∨ j % 2 = 1) with hr | hr
      · rw [hr] at hu
        simp only [List.getElem?_cons_zero, Option.some.injEq] at hu
        subst hu
        rw [show o + j = o + j / 2 * 2 by omega]
        exact h1
      · rw [hr] at hu
        simp only [List.getElem?_cons_succ, List.getElem?_cons_zero, Option.some.injEq] at hu
        subst hu
        rw [show o + j = o + j / 2 * 2 + 1 by omega]
        exact h2
/-! ### the sort, of one at most -/
theorem insert_small (v F : Value) (n : Nat) (w : World) (hn : n ≤ 1) : Calls Tryd.prog 107 #[v, .int .i64 0, .int .i64 (n : Nat), F] w fun e w' => e = .returned (.tuple #[]) ∧ w = w' := by
  have h1 : ¬ (1 : Int) < n := by omega
  go_enter Tryd.func107, Tryd.ntmps107
  go_wp2_with fail
  go_loop [8] (fun iv => iv = .int .i64 1) (fun _ => 0)
  case atStart => rfl
  case round =>
    subst hrel
    go_wp2_with fail
    go_end0
    exact ⟨rfl, rfl⟩
theorem stable_small (v F : Value) (n : Nat) (w : World) (hn : n ≤ 1) : Calls Tryd.prog 95 #[v, .int .i64 (n : Nat), F] w fun e w' => e = .returned (.tuple #[]) ∧ w = w' := by
  have h1 : ¬ (20 : Int) ≤ n := by omega
  have h2 : ¬ (20 : Int) < n := by omega
  go_enter Tryd.func95, Tryd.ntmps95
  go_wp2_with fail
  go_loop [7, 8] (fun a b => a = .int .i64 0 ∧ b = .int .i64 20) (fun _ _ => 0)
  case atStart => exact ⟨rfl, rfl⟩
  case round =>
    obtain ⟨rfl, rfl⟩ := hrel
    go_wp2_with fail
    refine (insert_small v F n _ hn).mono ?_
    rintro e w1 ⟨rfl, rfl⟩
    go_wp2_with fail
    go_loop [6] (fun b => b = .int .i64 20) (fun _ => 0)
    case atStart => rfl
    case round =>
      subst hrel
      go_wp2_with fail
      go_end0
      exact ⟨rfl, rfl⟩
theorem sort_small (A : Option Addr) (n c : Nat) (F : Value) (w : World) (hn : n ≤ 1) : Calls Tryd.prog 73 #[.slice A n c, F] w fun e w' => e = .returned (.tuple #[]) ∧ w = w' := by
  go_enter Tryd.func73, Tryd.ntmps73
  go_wp2_with fail
  refine (stable_small _ _ n _ hn).mono ?_
  rintro e w1 ⟨rfl, rfl⟩
  go_wp2_with fail
  go_end0
  exact ⟨rfl, rfl⟩
/-- the copy of files that rising sorts -/
def CopyAt (w : World) (l : List Fl) (g : Nat) (w' : World) : Prop := FlOwn w' w.heap.size (.slice (some ⟨g, 0, none⟩) l.length l.length) l ∧ Below w.heap.size w w'
set_option maxHeartbeats 2000000 in
set_option maxRecDepth 100000 in
theorem rising_of (w : World) (A : Option Addr) (c : Nat) (l L : List Fl) (hf : FlAt w A c l) (hl : l.length ≤ 1048576) (hlen : L.length = l.length)
    (hsort : ∀ g w1 F, CopyAt w l g w1 → Calls Tryd.prog 73 #[.slice (some ⟨g, 0, none⟩) l.length l.length, F] w1 fun e w' => e = .returned (.tuple #[]) ∧ FlOwn w' w.heap.size (.slice (some ⟨g, 0, none⟩) l.length l.length) L ∧ Below w.heap.size w w') :
    Calls Tryd.prog 48 #[.slice A l.length c] w (BnPost w L) := by
  obtain ⟨i0, hi0, hz0, hz1, hz2⟩ := info_parts infoFile
  obtain ⟨cs, hcs, hcell⟩ := hf.row
  have hck : ∀ c ∈ cs, c.length = 2 := hcs.forall_left fun c p hh => hh.len
  have hclen : cs.flatten.length = l.length * 2 := by rw [flat_len hck, hcs.length]
  have hone := cells_one hcs
  have Hf := Lib.hid hf
  have Hcs := Lib.hid hcs
  have Hcell := Lib.hid hcell
  have Hclen := Lib.hid hclen
  have Hone := Lib.hid hone
  clear hf hcs hcell hck hclen hone
  go_enter Tryd.func48, Tryd.ntmps48
  go_wp2_with (first | (at_make; refine wpList_make_own _ rfl _ _ 22 rfl w.heap.size 46 i0 (.agg #[.string ⟨#[]⟩, .slice none 0 0]) 2 Tryd.underlying22 hi0 hz0 hz1 _ _ _ l.length rfl rfl rfl ?hby ?hml ?hba ?_))
  case hby => rw [hz2]; omega
  case hml => simp [maxLen]; omega
  case hba => exact Nat.le_refl _
  intro w1 hown hgrow
  go_wp2_with (first | (at_builtin; refine wpList_append_fits_any _ rfl _ _ 22 rfl w.heap.size 46 i0 2 Tryd.underlying22 hi0 hz1 w.heap.size 0 l.length [] rfl hown A l.length c cs.flatten rfl ?hl ?hn ?hc ?h1c ?hb ?_))
  case hl => exact Hclen.out
  case hn => exact fun hA => by obtain ⟨h1, h2⟩ := Hf.out.nil hA; exact ⟨by rw [h1]; rfl, h2⟩
  case hc => exact fun ad hA j u hu => hgrow.cell (Hcell.out ad hA j u hu) (by simp)
  case h1c => exact Hone.out
  case hb => omega
  intro w2 hown2 hgrow2
  have hb2 : Below w.heap.size w w2 := (((Below.refl _ _).grown hgrow (Nat.le_refl _) (by simp)).grown hgrow2 hgrow.size (by intro k hk; cases hk; exact Nat.le_refl _))
  have hat : CopyAt w l w.heap.size w2 := ⟨⟨cs, Hcs.out.mono fun _ _ hh => hh.keep (Cells.of_below hb2), by simpa using hown2⟩, hb2⟩
  have hs := fun F => hsort w.heap.size w2 F hat
  clear hown hgrow hown2 hgrow2 hb2 hat hsort
  go_wp2_with fail
  refine (hs _).mono ?_
  rintro e w3 ⟨rfl, h3, hb3⟩
  have H3 := Lib.hid h3
  have Hb3 := Lib.hid hb3
  clear h3 hb3 hs
  go_wp2_with fail
  go_ret
  exact ⟨_, rfl, H3.out, Hb3.out⟩
theorem rising_small (w : World) (A : Option Addr) (c : Nat) (l : List Fl) (hf : FlAt w A c l) (hl : l.length ≤ 1) : Calls Tryd.prog 48 #[.slice A l.length c] w (BnPost w l) :=
  rising_of w A c l l hf (by omega) rfl fun g w1 F h => (sort_small _ _ _ F w1 hl).mono fun e w' ⟨he, hw⟩ => by subst hw; exact ⟨he, h.1, h.2⟩
end Go.Proofs.YtdmladdpbdcpjaaDoor
