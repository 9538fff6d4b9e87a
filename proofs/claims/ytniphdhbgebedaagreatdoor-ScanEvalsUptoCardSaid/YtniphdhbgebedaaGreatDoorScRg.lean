/-
  What the front of a text says: the reader over its tokens.
-/
import Derived.Test.YtniphdhbgebedaaGreatDoorScTo
namespace Go.Proofs.YtniphdhbgebedaaGreatDoor
open Go.RowKit Go.Maps

set_option linter.unusedSimpArgs false

attribute [local go_sem] Oper.semAt_some
attribute [local go_sem] lt1 lt2 lt3 lt4 lt5 lt6 eql62 eql62n run_store_func run_store_nilFunc

theorem tokens_any (s : ByteArray) (w : World) : Calls Tryz.prog 31 #[.string s] w fun e w' => e = .returned (.func (.func 63) #[] #[.pointer (some ⟨w.heap.size, 0, none⟩)]) ∧ w.alloc (.cells #[.string s] 9) = w' := by
  go_enter Tryz.func31, Tryz.ntmps31
  go_wp2_with fail
  go_ret
  exact ⟨rfl, rfl⟩
def src0 : Src := ⟨[], [], []⟩
/-- the reader is made, and its first step -/
theorem reader_new {w x y : World} {r : Nat} {v : Value} (h : x.heap[r]? = some (.cells #[.string ⟨#[]⟩, .slice none 0 0, .string ⟨#[]⟩, .nilFunc, .int .i64 0, .int .i64 0] 64 (0, 0))) (hw : w.heap.size ≤ r) (hB : Below x.heap.size x y)
    (hS : StepAt y (fun k => x.heap.size ≤ k) r .begin_ v) :
    RdSt (y.setCell ⟨r, 3, none⟩ v) (fun k => k = r ∨ (x.heap.size ≤ k ∧ k < y.heap.size)) r src0 (some .begin_) 0 0 := by
  have hl := lt_of_heap h
  have hy := (hB.block r hl).trans h
  have hsz := hB.size
  refine ⟨fun k => x.heap.size ≤ k ∧ k < y.heap.size, .slice none 0 0, v, ⟨.inl rfl, ?_, World.ownsRow_nil _ _ _ _, (fun b hb => absurd hb (by simp [Value.ownBlock])), (fun hp => by omega), (fun k hk => .inr hk)⟩, ?_, ?_⟩
  · rintro k (rfl | hk)
    · simp; omega
    · simp; exact hk.2
  · unfold RdC RdB
    rw [heap_setCell_at hy]
    rfl
  · exact StepAt.keep (StepAt.keep hS (P' := fun k => x.heap.size ≤ k ∧ k < y.heap.size) (fun _ _ _ => rfl) fun k hk hp => ⟨hp, hk⟩) (KeepP.of_fr (Fr.setCell [r] y ⟨r, 3, none⟩ v (by simp)) fun k hk => by simp; omega) fun _ _ h => h
theorem rdL_imports (ok : List UInt8 → Bool) (err : List UInt8 → Int) : ∀ (l : List Tok) (st : St) (d : Src) (st' : St) (d' : Src), rdL ok err st d l = .go st' d' → d'.imports.length ≤ d.imports.length + l.length
  | [], st, d, st', d', h => by cases h; simp
  | t :: r, st, d, st', d', h => by
    rw [rdL] at h
    split at h
    · rename_i st1 d1 h1
      have ih := rdL_imports ok err r st1 d1 st' d' h
      have h2 : d1.imports.length ≤ d.imports.length + 1 := by
        revert h1
        cases st <;> simp only [stepR] <;> (repeat' split) <;> intro h1 <;> first | (cases h1; done) | (cases h1; simp)
      rw [List.length_cons]
      omega
    · rename_i h1
      exact absurd h (h1 st' d')
end Go.Proofs.YtniphdhbgebedaaGreatDoor
