/-
  first: the network of which the document fixes all answers just so.
-/
import Derived.Test.YtpblaclhfcomeaaFew
import Derived.Test.YtpblaclhfcomeaaTotal
import Derived.Lib.SlBytesConst
namespace Go.Proofs.Ytpblaclhfcomeaa
open Go.RowKit Go.Maps

attribute [local go_sem] lt1 lt2 lt3 lt4 lt5 lt6

def uA : ByteArray := { data := #[47, 97] }
def uB : ByteArray := { data := #[47, 98] }
def ps0 : List (ByteArray × List UInt8) := [(uA, [97, 98, 99])]
def fs0 : List PFault := [⟨uA, 1, 1, 0, []⟩, ⟨uA, 2, 2, 2, []⟩, ⟨uA, 3, 3, 8, []⟩]
def S0 : NetSt := ⟨[(uA, [97, 98, 99])], [((uA, 1), ⟨uA, 1, 1, 0, []⟩), ((uA, 2), ⟨uA, 2, 2, 2, []⟩), ((uA, 3), ⟨uA, 3, 3, 8, []⟩)], []⟩
theorem new0 : newSt ps0 fs0 = .ok S0 := by kernel_rfl
theorem ans1 : ansOf S0 uA = (0, [], 1) := by kernel_rfl
theorem ans2 : ansOf (S0.ask uA) uA = (200, [97, 98], 1) := by kernel_rfl
theorem ans3 : ansOf ((S0.ask uA).ask uA) uA = (200, [97, 99, 99], 1) := by kernel_rfl
theorem ans4 : ansOf (((S0.ask uA).ask uA).ask uA) uB = (404, [], 1) := by kernel_rfl
theorem nth4 : nth ((((S0.ask uA).ask uA).ask uA).ask uB) uA = 3 := by kernel_rfl
theorem tot4 : total ((((S0.ask uA).ask uA).ask uA).ask uB) = 4 := by kernel_rfl
theorem nth0 : nth S0 uA = 0 := by kernel_rfl
theorem nth1 : nth (S0.ask uA) uA = 1 := by kernel_rfl
theorem nth2 : nth ((S0.ask uA).ask uA) uA = 2 := by kernel_rfl
theorem nth3 : nth (((S0.ask uA).ask uA).ask uA) uB = 0 := by kernel_rfl

def FirstPost (w : World) (e : Ending) (w' : World) : Prop := e = .returned (.bool true) ∧ Below w.heap.size w w'

/-- Get, its answer laid open -/
theorem get_at (w : World) (nb pb fb ab : Nat) (S : NetSt) (u : ByteArray) (st : Int) (l : List UInt8) (tk : Int) (len : Nat) (hlen : len = l.length) (h : NetAt w nb pb fb ab 0 S) (hu : u.size ≤ maxLen) (hc : nth S u < 4611686018427387904) (hans : ansOf S u = (st, l, tk)) :
    Calls Try.prog 10 #[.pointer (some ⟨nb, 0, none⟩), .string u] w fun e w' => ∃ A, e = .returned (.agg #[.int .i64 st, .slice A len len, .int .i64 tk]) ∧ Own w' A l ∧ (∀ a, A = some a → w.heap.size ≤ a.block) ∧ NetAt w' nb pb fb ab 0 (S.ask u) ∧ Fr [ab] w w' := by
  subst hlen
  refine (get_any w nb pb fb ab S u h hu hc).mono ?_
  rintro e w' ⟨A, he, h1, h2, h3, h4⟩
  rw [hans] at he h1
  exact ⟨A, he, h1, h2, h3, h4⟩

theorem keepb {x y : World} {ab k : Nat} {o : Obj} (F : Fr [ab] x y) (h : x.heap[k]? = some o) (hk : k ≠ ab) : y.heap[k]? = some o := (F.block k (lt_of_heap h) (by simpa using hk)).trans h
theorem keepa {x : World} {k : Nat} {o : Obj} (o' : Obj) (h : x.heap[k]? = some o) : (x.alloc o').heap[k]? = some o := (Below.heap_alloc x o' k (lt_of_heap h)).trans h
theorem conv_row {x : World} {g : Nat} {l : List UInt8} (h : Row8 x g l) (n c : Nat) (hn : n = l.length) : (convert 31 9 (.slice (some ⟨g, 0, none⟩) n c)).run Try.prog x = .ok (.string ⟨l.toArray⟩) x := by
  subst hn
  refine run_convert_bytes_back x _ _ 5 _ c l Try.underlying31 Try.underlying5 Try.underlying9 fun j hj => ?_
  have e : (⟨g, 0, none⟩ : Addr).add j = ⟨g, j, none⟩ := by
    by_cases h0 : j = 0
    · subst h0; rfl
    · simp [Addr.add, h0]
  rw [e, (blk_cells h).1]
  simp [u8s, hj]

set_option maxHeartbeats 4000000 in
set_option maxRecDepth 100000 in
theorem first_any (w : World) : Calls Try.prog 6 #[] w (FirstPost w) := by
  have kc := fun (w : World) (C : Array Value) (n c : Nat) => Lib.run_convert_bytes_const (P := Try.prog) w 31 5 C n c Try.underlying31 Try.underlying5
  go_enter Try.func6, Try.ntmps6
  go_wp2_with fail
  clear kc
  refine (new_at _ ps0 fs0 _ _ _ _ _ _ rfl rfl ?_ ?_).mono ?_
  · have hX1 : (((w.alloc (.cells #[.int .u8 97, .int .u8 98, .int .u8 99] 5 (3, 4))).alloc (.cells #[.string uA, .slice (some ⟨w.heap.size, 0, none⟩) 3 3] 33)).alloc
        (.cells #[.string uA, .int .i64 1, .int .i64 1, .int .i64 0, .slice none 0 0, .string uA, .int .i64 2, .int .i64 2, .int .i64 2, .slice none 0 0, .string uA, .int .i64 3, .int .i64 3, .int .i64 8, .slice none 0 0] 38)).heap[w.heap.size + 1]? =
        some (.cells #[.string uA, .slice (some ⟨w.heap.size, 0, none⟩) 3 3] 33 (0, 0)) := by simp only [heap_alloc_if, World.size_alloc]; simp
    have hX0 : (((w.alloc (.cells #[.int .u8 97, .int .u8 98, .int .u8 99] 5 (3, 4))).alloc (.cells #[.string uA, .slice (some ⟨w.heap.size, 0, none⟩) 3 3] 33)).alloc
        (.cells #[.string uA, .int .i64 1, .int .i64 1, .int .i64 0, .slice none 0 0, .string uA, .int .i64 2, .int .i64 2, .int .i64 2, .slice none 0 0, .string uA, .int .i64 3, .int .i64 3, .int .i64 8, .slice none 0 0] 38)).heap[w.heap.size]? =
        some (.cells #[.int .u8 97, .int .u8 98, .int .u8 99] 5 (3, 4)) := by simp only [heap_alloc_if, World.size_alloc]; simp; omega
    have c1 := blk_cells hX1
    refine ⟨by simp, by decide, by decide, fun _ => ⟨w.heap.size + 1, 0, rfl, fun i p hi => ?_⟩⟩
    have hi0 : i = 0 ∧ p = (uA, [97, 98, 99]) := by
      match i, hi with
      | 0, hi => simp [ps0] at hi; exact ⟨rfl, hi.symm⟩
      | i + 1, hi => simp [ps0] at hi
    obtain ⟨rfl, rfl⟩ := hi0
    refine ⟨c1.1 0, by decide, by decide, some ⟨w.heap.size, 0, none⟩, 3, c1.1 1, by simp [u8s], by simp, by decide, by decide, fun _ => ⟨w.heap.size, 0, rfl, fun j hj => ?_⟩⟩
    have hc : ∀ X : World, X.heap[w.heap.size]? = some (.cells #[.int .u8 97, .int .u8 98, .int .u8 99] 5 (3, 4)) → X.cell? ⟨w.heap.size, 0 + j, none⟩ = (u8s [97, 98, 99])[j]? := by
      intro X hX
      have e : u8s [97, 98, 99] = [.int .u8 97, .int .u8 98, .int .u8 99] := rfl
      rw [e]
      simp [World.cell?, hX]
    exact hc _ hX0
  · have hX2 := heap_alloc_new ((w.alloc (.cells #[.int .u8 97, .int .u8 98, .int .u8 99] 5 (3, 4))).alloc (.cells #[.string uA, .slice (some ⟨w.heap.size, 0, none⟩) 3 3] 33))
        (.cells #[.string uA, .int .i64 1, .int .i64 1, .int .i64 0, .slice none 0 0, .string uA, .int .i64 2, .int .i64 2, .int .i64 2, .slice none 0 0, .string uA, .int .i64 3, .int .i64 3, .int .i64 8, .slice none 0 0] 38)
    simp only [World.size_alloc] at hX2
    have c2 := blk_cells hX2
    refine ⟨by simp, by decide, by decide, fun _ => ⟨w.heap.size + 1 + 1, 0, rfl, fun i f hi => ?_⟩⟩
    have hB : ∀ X : World, Bs X none 0 ([] : List UInt8) := fun X => Bs.none_ X
    match i, hi with
    | 0, hi =>
      simp [fs0] at hi
      subst hi
      refine ⟨by decide, by decide, by decide, by decide, by decide, none, 0, hB _, fun j hj => ?_⟩
      refine (c2.1 _).trans ?_
      match j, hj with
      | 0, _ => rfl
      | 1, _ => rfl
      | 2, _ => rfl
      | 3, _ => rfl
      | 4, _ => rfl
    | 1, hi =>
      simp [fs0] at hi
      subst hi
      refine ⟨by decide, by decide, by decide, by decide, by decide, none, 0, hB _, fun j hj => ?_⟩
      refine (c2.1 _).trans ?_
      match j, hj with
      | 0, _ => rfl
      | 1, _ => rfl
      | 2, _ => rfl
      | 3, _ => rfl
      | 4, _ => rfl
    | 2, hi =>
      simp [fs0] at hi
      subst hi
      refine ⟨by decide, by decide, by decide, by decide, by decide, none, 0, hB _, fun j hj => ?_⟩
      refine (c2.1 _).trans ?_
      match j, hj with
      | 0, _ => rfl
      | 1, _ => rfl
      | 2, _ => rfl
      | 3, _ => rfl
      | 4, _ => rfl
    | i + 3, hi => simp [fs0] at hi
  rintro e w1 ⟨hb1, ⟨S, nb, pb, fb, ab, hS, rfl, hN, hn1, hn2, hn3, hn4⟩ | ⟨c, hc, _⟩⟩
  rotate_left
  · rw [new0] at hc; cases hc
  rw [new0] at hS
  cases hS
  have hB1 : Below w.heap.size w w1 := (below3 w _ _ _).trans (hb1.mono (by simp; omega))
  have HB1 := Lib.hid hB1
  have HN := Lib.hid hN
  clear hb1 hN hB1
  simp at hn1 hn2 hn3 hn4
  go_wp2_with (first | (go_at_call 9; refine (num_any _ _).mono ?_; rintro e w' ⟨rfl, rfl⟩))
  refine (get_at _ nb pb fb ab S0 uA 0 [] 1 0 rfl HN.out (by decide) (by rw [nth0]; omega) ans1).mono ?_
  rintro e w2 ⟨A1, rfl, _, _, hN2, F2⟩
  have HN2 := Lib.hid hN2
  have HF2 := Lib.hid F2
  clear hN2 F2
  go_wp2_with fail
  refine (get_at _ nb pb fb ab (S0.ask uA) uA 200 [97, 98] 1 2 rfl (HN2.out.below ((Below.refl _ _).alloc (Nat.le_refl _) _)) (by decide) (by rw [nth1]; omega) ans2).mono ?_
  rintro e w3 ⟨A2, rfl, hO3, hne3, hN3, F3⟩
  have HN3 := Lib.hid hN3
  have HF3 := Lib.hid F3
  have HO3 := Lib.hid hO3
  clear hN3 F3 hO3 hne3
  go_wp2_with fail
  refine (get_at _ nb pb fb ab ((S0.ask uA).ask uA) uA 200 [97, 99, 99] 1 3 rfl (HN3.out.below ((Below.refl _ _).alloc (Nat.le_refl _) _)) (by decide) (by rw [nth2]; omega) ans3).mono ?_
  rintro e w4 ⟨A3, rfl, hO4, hne4, hN4, F4⟩
  have HN4 := Lib.hid hN4
  have HF4 := Lib.hid F4
  have HO4 := Lib.hid hO4
  clear hN4 F4 hO4 hne4
  go_wp2_with fail
  refine (get_at _ nb pb fb ab (((S0.ask uA).ask uA).ask uA) uB 404 [] 1 0 rfl (HN4.out.below ((Below.refl _ _).alloc (Nat.le_refl _) _)) (by decide) (by rw [nth3]; omega) ans4).mono ?_
  rintro e w5 ⟨A4, rfl, _, _, hN5, F5⟩
  have HN5 := Lib.hid hN5
  have HF5 := Lib.hid F5
  clear hN5 F5
  have hab2 := HN2.out.lt ab (by simp)
  have hs3 := HF3.out.size
  have hs4 := HF4.out.size
  have hs5 := HF5.out.size
  simp at hs3 hs4 hs5
  have a3 := keepb HF3.out (heap_alloc_new w2 _) (by omega)
  have a4 := keepb HF4.out (keepa _ a3) (by omega)
  have a5 := keepb HF5.out (keepa _ a4) (by omega)
  have b4 := keepb HF4.out (heap_alloc_new w3 _) (by omega)
  have b5 := keepb HF5.out (keepa _ b4) (by omega)
  have c5 := keepb HF5.out (heap_alloc_new w4 _) (by omega)
  obtain ⟨g2, rfl, hg2⟩ : ∃ g, A2 = some ⟨g, 0, none⟩ ∧ Row8 w5 g [97, 98] := by
    rcases HO3.out with ⟨_, h⟩ | ⟨g, hA, hg⟩
    · cases h
    · refine ⟨g, hA, keepb HF5.out (keepa _ (keepb HF4.out (keepa _ hg) ?_)) ?_⟩
      all_goals
        rintro rfl
        exact HN3.out.not_row g (by simp) _ hg
  obtain ⟨g3, rfl, hg3⟩ : ∃ g, A3 = some ⟨g, 0, none⟩ ∧ Row8 w5 g [97, 99, 99] := by
    rcases HO4.out with ⟨_, h⟩ | ⟨g, hA, hg⟩
    · cases h
    · refine ⟨g, hA, keepb HF5.out (keepa _ hg) ?_⟩
      rintro rfl
      exact HN4.out.not_row g (by simp) _ hg
  have k1 := fun o => conv_row (x := w5.alloc o) (keepa o hg2) 2 2 rfl
  have k2 := fun o => conv_row (x := w5.alloc o) (keepa o hg3) 3 3 rfl
  have fa := blk_cells a5
  have fb' := blk_cells b5
  have fc := blk_cells c5
  have HB : Hid (Below w.heap.size w w5) := Lib.hid (by
    have e1 := HB1.out.size
    have e2 := HF2.out.size
    exact HB1.out.trans ((HF2.out.below (by omega) (by simp; omega)).trans (((Below.refl _ _).alloc (by omega) _).trans ((HF3.out.below (by simp; omega) (by simp; omega)).trans (((Below.refl _ _).alloc (by omega) _).trans
      ((HF4.out.below (by simp; omega) (by simp; omega)).trans (((Below.refl _ _).alloc (by omega) _).trans (HF5.out.below (by simp; omega) (by simp; omega)))))))))
  have hw5 : w.heap.size ≤ w5.heap.size := HB.out.size
  clear a3 a4 a5 b4 b5 c5 hg2 hg3
  go_wp2_with fail
  refine (asked_any _ nb pb fb ab _ uA (HN5.out.below ((Below.refl _ _).alloc (Nat.le_refl _) _)) (by decide)).mono ?_
  rintro e w6 ⟨rfl, h6, F6⟩
  rw [nth4]
  have H6 := Lib.hid h6
  have HF6 := Lib.hid F6
  clear h6 F6
  go_wp2_with fail
  refine (total_any _ nb pb fb ab _ H6.out (by rw [tot4]; omega)).mono ?_
  rintro e w7 ⟨rfl, h7, F7⟩
  rw [tot4]
  have HF7 := Lib.hid F7
  clear h7 F7
  go_wp2_with fail
  go_ret
  exact ⟨rfl, HB.out.trans (((Below.refl _ _).alloc hw5 _).trans ((HF6.out.below (by simp; omega) (by simp)).trans (HF7.out.below (by have := HF6.out.size; simp at this; omega) (by simp))))⟩
end Go.Proofs.Ytpblaclhfcomeaa
