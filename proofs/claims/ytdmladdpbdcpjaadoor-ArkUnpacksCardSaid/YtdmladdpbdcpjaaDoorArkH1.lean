/-
  H1 and the sum of a manifest: the package's. (Printed by wip/abexp.py.)
-/
import Derived.Test.YtdmladdpbdcpjaaDoorArkLines
import Derived.Test.YtdmladdpbdcpjaaDoorArkRise
namespace Go.Proofs.YtdmladdpbdcpjaaDoor
open Go.RowKit

set_option linter.unusedSimpArgs false

attribute [local go_sem] lt1 lt2 lt3 lt4 lt5 lt6

/-- what H1 hands back of files whose order is L -/
def H1Post (l L : List Fl) (w : World) (e : Ending) (w' : World) : Prop :=
  e = .returned (.tuple #[.string ⟨(if namesErr [] (namesOf l) = 0 then sumOf L else []).toArray⟩, .int .i64 (namesErr [] (namesOf l) : Nat)]) ∧ Below w.heap.size w w'
set_option maxHeartbeats 1000000 in
theorem h1_of (w : World) (A : Option Addr) (c : Nat) (l L : List Fl) (hf : FlAt w A c l) (hm : MaxL w) (hl : l.length ≤ 1024) (hs : ∀ p ∈ l, p.1.size ≤ 1048576)
    (hr : namesErr [] (namesOf l) = 0 → ∀ w', Below w.heap.size w w' → Calls Tryd.prog 51 #[.slice A l.length c] w' (SumPost L w')) :
    Calls Tryd.prog 15 #[.slice A l.length c] w (H1Post l L w) := by
  have hn := names_any w A c l hf (by omega) hs hm
  have Hr := Lib.hid hr
  unfold NmPost at hn
  clear hf hm hs hr
  obtain ⟨n, hnn⟩ : ∃ n, n = namesErr [] (namesOf l) := ⟨_, rfl⟩
  rw [← hnn] at hn
  have Hn := Lib.hid hnn
  clear hnn
  go_enter Tryd.func15, Tryd.ntmps15
  go_wp2_with fail
  refine hn.mono ?_
  rintro e w1 ⟨rfl, hb1⟩
  have Hb1 := Lib.hid hb1
  clear hn hb1
  by_cases hz : n = 0
  · subst hz
    have hs := Hr.out Hn.out.symm w1 Hb1.out
    unfold SumPost at hs
    go_wp2_with fail
    refine hs.mono ?_
    rintro e w2 ⟨rfl, hb2⟩
    have Hb2 := Lib.hid (Hb1.out.trans (hb2.mono Hb1.out.size))
    clear hs hb2
    go_wp2_with fail
    go_ret2
    exact ⟨by rw [← Hn.out, if_pos rfl]; rfl, Hb2.out⟩
  · have hne : ((n : Int) != 0) = true := by rw [bne_iff_ne]; omega
    have Hz := Lib.hid hz
    clear hz
    go_wp2_with fail
    go_ret2
    exact ⟨by rw [← Hn.out, if_neg Hz.out]; rfl, Hb1.out⟩
/-! ### a manifest's -/
def goMod : ByteArray := ⟨#[103, 111, 46, 109, 111, 100]⟩
theorem FlAt.one {w : World} {A : Option Addr} {c : Nat} {d : List UInt8} (x : ByteArray) (h : Bs w A c d) : FlAt (w.alloc (.cells #[.string x, .slice A d.length c] 46)) (some ⟨w.heap.size, 0, none⟩) 1 [(x, d)] := by
  have hc := blk_cells (heap_alloc_new w (.cells #[.string x, .slice A d.length c] 46))
  refine ⟨by simp, by simp, by simp [maxLen], fun _ => ⟨w.heap.size, 0, rfl, fun i p hi => ?_⟩⟩
  have h0 : i = 0 := by have := (List.getElem?_eq_some_iff.1 hi).1; simpa using this
  subst h0
  simp only [List.getElem?_cons_zero, Option.some.injEq] at hi
  subst hi
  exact ⟨hc.1 0, A, c, hc.1 1, h.keep (Cells.alloc _ _)⟩
set_option maxHeartbeats 1000000 in
theorem manifest_any (w : World) (A : Option Addr) (c : Nat) (d : List UInt8) (hb : Bs w A c d) (hd : d.length ≤ 1048576) :
    Calls Tryd.prog 41 #[.slice A d.length c] w (SumPost [(goMod, d)] w) := by
  have hfl := FlAt.one goMod hb
  have hsum := sum_of _ _ 1 _ [(goMod, d)] (rising_small _ _ _ _ hfl (by simp)) (by simp) (fun p hp => by rw [List.mem_singleton.1 hp]; show goMod.size ≤ 512; decide) (fun p hp => by rw [List.mem_singleton.1 hp]; exact hd)
  have Hp : Hid (∀ w', Below (w.alloc (.cells #[.string goMod, .slice A d.length c] 46)).heap.size (w.alloc (.cells #[.string goMod, .slice A d.length c] 46)) w' → Below w.heap.size w w') := Lib.hid fun w' h => ((Below.refl _ _).alloc (Nat.le_refl _) _).trans (h.mono (by simp))
  unfold SumPost goMod at hsum
  unfold goMod at Hp
  clear hfl
  go_enter Tryd.func41, Tryd.ntmps41
  go_wp2_with fail
  refine hsum.mono ?_
  rintro e w2 ⟨rfl, hb2⟩
  have Hb2 := Lib.hid (Hp.out _ hb2)
  clear hb2 hsum
  go_wp2_with fail
  go_ret
  exact ⟨rfl, Hb2.out⟩
end Go.Proofs.YtdmladdpbdcpjaaDoor
