/-
  slices.Sort of texts.
-/
import Derived.Test.YtaolddgnannojaaDoorFsOwn
import Derived.Test.YtaolddgnannojaaDoorFsValid
import Derived.Test.YtaolddgnannojaaDoorIter
import Derived.Sort.OwnSorted
namespace Go.Proofs.YtaolddgnannojaaDoor
open Go.RowKit Go.Maps Go.Sort

theorem sort_nil (w : World) : Calls Tryd.prog 43 #[.slice none 0 0] w fun e w' => e = .returned (.tuple #[]) ∧ w' = w := AnyM.slices_Sort_string_none Tryd.sort43 none 0 w
/-- a row of texts sorted -/
def SortPost (w : World) (base : Nat) (v : Value) (ss : List (List UInt8)) (e : Ending) (w' : World) : Prop :=
  e = .returned (.tuple #[]) ∧ w'.ownsRow base 9 1 v ss.length ((ss.mergeSort leB).map Go.Proofs.encStr) ∧ w.grownBy w' v.ownBlock
theorem sort_texts (w : World) (base : Nat) (v : Value) (ss : List (List UInt8)) (h : w.ownsRow base 9 1 v ss.length (ss.map Go.Proofs.encStr)) (hl : ss.length ≤ 1099511627776) :
    Calls Tryd.prog 43 #[v] w (SortPost w base v ss) := by
  rcases h.2 with ⟨rfl, h2⟩ | ⟨g, cap, cur, rfl, hbase, hb, h1, h2, h3, h4⟩
  · refine (sort_nil w).mono ?_
    rintro e w' ⟨rfl, rfl⟩
    have : ss = [] := by simpa using h2
    subst this
    exact ⟨rfl, by simpa using World.ownsRow_nil w' base 9 1, ⟨rfl, rfl, rfl, Nat.le_refl _, fun _ _ _ => rfl⟩⟩
  · have hH : Holds Go.Proofs.encStr w g 0 ss.toArray := holds_of_block hb (by simpa using h4)
    refine (AnyM.slices_Sort_string Tryd.sort43 g 0 cap ss w hH (lt_of_heap hb) (by omega)).mono ?_
    rintro e w' ⟨rfl, n, os, rfl⟩
    refine ⟨rfl, ?_, grownBy_sorted _⟩
    exact ownsRow_sorted (by simp) hbase hb h1 h2 h3
end Go.Proofs.YtaolddgnannojaaDoor
