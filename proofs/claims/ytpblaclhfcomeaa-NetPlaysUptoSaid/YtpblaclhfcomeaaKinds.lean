/-
  The functions by a fault's kind: what each makes of an answer, and the table that holds them.
-/
import Derived.Test.YtpblaclhfcomeaaFns
import Derived.RegionTactic
import Derived.Laws.BitsAllLaws
namespace Go.Proofs.Ytpblaclhfcomeaa
open Go.RowKit

attribute [local go_sem] lt1 lt2 lt3 lt4 lt5 lt6
def fV (u : ByteArray) (att kind n : Int) (A : Option Addr) (len cap : Nat) : Value := .agg #[.string u, .int .i64 att, .int .i64 kind, .int .i64 n, .slice A len cap]
def aV (st : Int) (A : Option Addr) (len : Nat) (tk : Int) : Value := .agg #[.int .i64 st, .slice A len len, .int .i64 tk]
/-- an answer's bytes lie in a block of their own -/
def Own (w : World) (A : Option Addr) (l : List UInt8) : Prop := (A = none ∧ l = []) ∨ ∃ g, A = some ⟨g, 0, none⟩ ∧ w.heap[g]? = some (.cells (u8s l).toArray 5 (0, 0))
def blk : Option Addr → List Nat
  | some a => [a.block]
  | none => []
/-- what a kind's function hands back -/
def Gives (w : World) (A : Option Addr) (st : Int) (l : List UInt8) (tk : Int) (e : Ending) (w' : World) : Prop :=
  ∃ A', e = .returned (aV st A' l.length tk) ∧ Own w' A' l ∧ (∀ a, A' = some a → w.heap.size ≤ a.block ∨ A = some a) ∧ Fr (blk A) w w'

theorem below3 (w : World) (o1 o2 o3 : Obj) : Below w.heap.size w (((w.alloc o1).alloc o2).alloc o3) := (((Below.refl _ _).alloc (by simp) _).alloc (by simp) _).alloc (by simp; omega) _

theorem late_any (u : ByteArray) (att kind n : Int) (A : Option Addr) (len cap : Nat) (st : Int) (g : Nat) (l : List UInt8) (tk : Int) (w : World) (hg : w.heap[g]? = some (.cells (u8s l).toArray 5 (0, 0))) :
    Calls Try.prog 49 #[fV u att kind n A len cap, aV st (some ⟨g, 0, none⟩) l.length tk] w (Gives w (some ⟨g, 0, none⟩) st l n) := by
  unfold fV aV
  have Hg := Lib.hid hg
  clear hg
  go_enter Try.func49, Try.ntmps49
  go_wp2
  refine bodyPost_ret (v := aV st (some ⟨g, 0, none⟩) l.length n) (by simp [aV, results, Try.results49, go_sem]) rfl ⟨_, rfl, .inr ⟨g, rfl, ?_⟩, ?_, ?_⟩
  · exact ((below3 w _ _ _).block g (lt_of_heap Hg.out)).trans Hg.out
  · intro a ha; exact .inr ha
  · exact Fr.of_below (below3 w _ _ _) _

theorem cut_any (u : ByteArray) (att kind : Int) (m : Nat) (A : Option Addr) (len cap : Nat) (st : Int) (g : Nat) (l : List UInt8) (tk : Int) (w : World) (hg : w.heap[g]? = some (.cells (u8s l).toArray 5 (0, 0))) (hm : m ≤ 9223372036854775807) (hl : l.length ≤ 140737488351232) :
    Calls Try.prog 47 #[fV u att kind m A len cap, aV st (some ⟨g, 0, none⟩) l.length tk] w (Gives w (some ⟨g, 0, none⟩) st (l.take m) tk) := by
  unfold fV aV
  have hlt := lt_of_heap hg
  have Hg := Lib.hid hg
  clear hg
  have hmax : l.length ≤ maxLen := by unfold maxLen; omega
  by_cases hc : m ≤ l.length
  all_goals
    go_enter Try.func47, Try.ntmps47
    go_wp2_with fail
    refine (fresh_at (l.take m) _ _ _ _ ?_ ?_ ?_).mono ?_
    · simp; omega
    · simp; omega
    · have hb0 := ((below3 w (.cells #[.string u, .int .i64 att, .int .i64 kind, .int .i64 m, .slice A len cap] 38)
        (.cells #[.int .i64 st, .slice (some ⟨g, 0, none⟩) l.length l.length, .int .i64 tk] 35) (.cells #[.int .i64 0, .slice none 0 0, .int .i64 0] 35)).block g hlt).trans Hg.out
      refine ⟨by simp [u8s], by simp, by simp; omega, hmax, fun _ => ⟨g, 0, rfl, fun j hj => ?_⟩⟩
      have hj2 : j < m := by simp at hj; omega
      rw [(blk_cells hb0).1]
      simp [u8s, hj2]
    rintro e w1 ⟨g1, rfl, hh, hge, hb⟩
    simp at hge
    have c1 := blk_cells (w := w1) (b := w.heap.size + 1) (cs := #[.int .i64 st, .slice (some ⟨g, 0, none⟩) l.length l.length, .int .i64 tk]) (t := 35) ((hb.block _ (by simp)).trans (by simp only [heap_alloc_if, World.size_alloc]; simp))
    have c2 := blk_cells (w := w1) (b := w.heap.size + 1 + 1) (cs := #[.int .i64 0, .slice none 0 0, .int .i64 0]) (t := 35) ((hb.block _ (by simp)).trans (by simp only [heap_alloc_if, World.size_alloc]; simp))
    have hwb : Below w.heap.size w w1 := (below3 w _ _ _).trans (hb.mono (by simp; omega))
    have Hh := Lib.hid hh
    clear hh hb
    go_wp2
    refine bodyPost_ret (v := aV st (some ⟨g1, 0, none⟩) (l.take m).length tk) ?_ rfl ⟨_, rfl, .inr ⟨g1, rfl, ?_⟩, ?_, ?_⟩
    · simp [aV, results, Try.results47, go_sem, c2]
      try omega
    · rw [Below.heap_setCell _ _ _ _ (by simp; omega), Below.heap_setCell _ _ _ _ (by simp; omega), Below.heap_setCell _ _ _ _ (by simp; omega), Below.heap_setCell _ _ _ _ (by simp; omega)]
      exact Hh.out
    · intro a ha
      cases ha
      exact .inl (by simp; omega)
    · exact Fr.of_below ((((hwb.setCell (by simp) _).setCell (by simp; omega) _).setCell (by simp; omega) _).setCell (by simp; omega) _) _

def turned (l : List UInt8) (m : Nat) : List UInt8 := l.set (m / 8) (l.getD (m / 8) 0 ^^^ UInt8.ofNat (2 ^ (m % 8)))

set_option maxRecDepth 100000 in
theorem flip_any (u : ByteArray) (att kind : Int) (m : Nat) (A : Option Addr) (len cap : Nat) (st : Int) (g : Nat) (l : List UInt8) (tk : Int) (w : World) (hg : w.heap[g]? = some (.cells (u8s l).toArray 5 (0, 0))) (hm : m ≤ 9223372036854775807) (hl : l.length ≤ 140737488351232) :
    Calls Try.prog 48 #[fV u att kind m A len cap, aV st (some ⟨g, 0, none⟩) l.length tk] w (Gives w (some ⟨g, 0, none⟩) st (turned l m) tk) := by
  have Hlen : Hid ((turned l m).length = l.length) := by unfold turned; exact Lib.hid (by simp)
  unfold fV aV
  have hlt := lt_of_heap hg
  have Hg := Lib.hid hg
  clear hg
  by_cases hc : m / 8 < l.length
  · have c0 := blk_cells Hg.out
    obtain ⟨p, hp⟩ : ∃ p, p = l.getD (m / 8) 0 := ⟨_, rfl⟩
    have hcell : w.cell? ⟨g, m / 8, none⟩ = some (.int .u8 p.toNat) := by rw [c0.1, hp]; simpa using u8s_at hc
    have hfz := c0.2.1
    clear c0
    have Hp := Lib.hid hp
    clear hp
    have Hx : Hid (bits BinOp.xor IntKind.u8 (p.toNat : Int) (2 ^ (m % 8) % 256) = ((p ^^^ UInt8.ofNat (2 ^ (m % 8))).toNat : Int)) := by
      refine Lib.hid ?_
      have e : ((2 : Int) ^ (m % 8) % 256) = (((2 ^ (m % 8) % 256 : Nat)) : Int) := by push_cast; rfl
      rw [e, u8_xor_nat _ _ p.toNat_lt (Nat.mod_lt _ (by omega))]
      rw [UInt8.toNat_xor, UInt8.toNat_ofNat']
    go_enter Try.func48, Try.ntmps48
    go_wp2
    go_region
    rw [Hx.out]
    generalize hv : Value.int IntKind.u8 ((p ^^^ UInt8.ofNat (2 ^ (m % 8))).toNat : Int) = v
    have Hv := Lib.hid hv
    clear hv
    go_wp2
    refine bodyPost_ret (v := aV st (some ⟨g, 0, none⟩) (turned l m).length tk) ?_ rfl ⟨_, rfl, .inr ⟨g, rfl, ?_⟩, ?_, ?_⟩
    · rw [Hlen.out]; simp [aV, results, Try.results48, go_sem]
    · have h1 := heap_setCell_at Hg.out (m / 8) v
      have h2 := ((below3 (w.setCell ⟨g, m / 8, none⟩ v) (.cells #[.string u, .int .i64 att, .int .i64 kind, .int .i64 m, .slice A len cap] 38)
        (.cells #[.int .i64 st, .slice (some ⟨g, 0, none⟩) l.length l.length, .int .i64 tk] 35) (.cells #[.int .i64 st, .slice (some ⟨g, 0, none⟩) l.length l.length, .int .i64 tk] 35)).block g (lt_of_heap h1)).trans h1
      refine Eq.trans ?_ (h2.trans ?_)
      · rfl
      · rw [← Hv.out, Hp.out]
        simp [u8s, turned, List.map_set]
    · intro a ha; exact .inr ha
    · exact (Fr.setCell [g] w ⟨g, m / 8, none⟩ v (by simp)).trans ((Fr.of_below (below3 _ _ _ _) _).drewN 1)
  · have Hx : Hid (turned l m = l) := Lib.hid (by unfold turned; rw [List.set_eq_of_length_le (by omega)])
    go_enter Try.func48, Try.ntmps48
    go_wp2
    rw [Hx.out]
    refine bodyPost_ret (v := aV st (some ⟨g, 0, none⟩) l.length tk) (by simp [aV, results, Try.results48, go_sem]) rfl ⟨_, rfl, .inr ⟨g, rfl, ?_⟩, ?_, ?_⟩
    · exact ((below3 w _ _ _).block g (lt_of_heap Hg.out)).trans Hg.out
    · intro a ha; exact .inr ha
    · exact Fr.of_below (below3 w _ _ _) _

theorem always_any (u : ByteArray) (att kind n : Int) (A : Option Addr) (len cap : Nat) (st : Int) (A2 : Option Addr) (len2 : Nat) (tk : Int) (there : Bool) (g : Nat) (s : Int) (w : World) (hg : w.cell? ⟨g, 0, none⟩ = some (.int .i64 s)) :
    Calls Try.prog 45 #[fV u att kind n A len cap, aV st A2 len2 tk, .bool there, .pointer (some ⟨g, 0, none⟩)] w (Gives w A2 s [] 1) := by
  unfold fV aV
  have hlt := World.block_lt_of_cell? w _ hg
  go_enter Try.func45, Try.ntmps45
  go_wp2
  refine bodyPost_ret (v := aV s none 0 1) (by simp [aV, results, Try.results45, go_sem]) rfl ⟨_, rfl, .inl ⟨rfl, rfl⟩, by simp, ?_⟩
  exact Fr.of_below (below3 w _ _ _) _

theorem forge_any (u : ByteArray) (att kind n : Int) (A : Option Addr) (d : List UInt8) (cap : Nat) (st : Int) (A2 : Option Addr) (len2 : Nat) (tk : Int) (there : Bool) (w : World) (hd : Bs w A cap d) (hl : d.length ≤ 140737488351232) :
    Calls Try.prog 46 #[fV u att kind n A d.length cap, aV st A2 len2 tk, .bool there] w (Gives w A2 200 d 1) := by
  unfold fV aV
  have Hd := Lib.hid hd
  clear hd
  go_enter Try.func46, Try.ntmps46
  go_wp2_with fail
  refine (fresh_at d _ _ _ _ rfl hl ?_).mono ?_
  · exact Hd.out.keep (Cells.of_below (below3 w _ _ _))
  rintro e w1 ⟨g1, rfl, hh, hge, hb⟩
  simp at hge
  have c2 := blk_cells (w := w1) (b := w.heap.size + 1 + 1) (cs := #[.int .i64 0, .slice none 0 0, .int .i64 0]) (t := 35) ((hb.block _ (by simp)).trans (by simp only [heap_alloc_if, World.size_alloc]; simp))
  have hwb : Below w.heap.size w w1 := (below3 w _ _ _).trans (hb.mono (by simp; omega))
  have Hh := Lib.hid hh
  clear hh hb
  go_wp2
  refine bodyPost_ret (v := aV 200 (some ⟨g1, 0, none⟩) d.length 1) ?_ rfl ⟨_, rfl, .inr ⟨g1, rfl, ?_⟩, ?_, ?_⟩
  · simp [aV, results, Try.results46, go_sem, c2]
  · rw [Below.heap_setCell _ _ _ _ (by simp; omega), Below.heap_setCell _ _ _ _ (by simp; omega), Below.heap_setCell _ _ _ _ (by simp; omega)]
    exact Hh.out
  · intro a ha
    cases ha
    exact .inl (by simp; omega)
  · exact Fr.of_below (((hwb.setCell (by simp; omega) _).setCell (by simp; omega) _).setCell (by simp; omega) _) _

/-- 'where', no page: the answer as it came. -/
theorem where_no (fv : Array Value) (hfv : fv.size = 5) (st : Int) (tk : Int) (p : Value) (w : World) :
    Calls Try.prog 43 #[.agg fv, aV st none 0 tk, .bool false, p] w (Gives w none st [] tk) := by
  unfold aV
  obtain ⟨l⟩ := fv
  match l, hfv with
  | [x0, x1, x2, x3, x4], _ =>
  go_enter Try.func43, Try.ntmps43
  go_wp2
  refine bodyPost_ret (v := aV st none 0 tk) (by simp [aV, results, Try.results43, go_sem]) rfl ⟨_, rfl, .inl ⟨rfl, rfl⟩, by simp, ?_⟩
  exact Fr.of_below (below3 w _ _ _) _

/-- 'where', a page: what its function does. -/
theorem where_yes (u : ByteArray) (att kind n : Int) (A : Option Addr) (len cap : Nat) (st : Int) (g : Nat) (l l' : List UInt8) (tk tk' : Int) (f gf : Nat) (w : World) (hg : w.heap[g]? = some (.cells (u8s l).toArray 5 (0, 0)))
    (hf : w.cell? ⟨gf, 0, none⟩ = some (.func (.func f) #[] #[])) (hcall : ∀ (args : Array Value) (x : World), (callFunc f args).run Try.prog x = .ok (.enter f args) x)
    (hdo : ∀ w1 : World, Below w.heap.size w w1 → Calls Try.prog f #[fV u att kind n A len cap, aV st (some ⟨g, 0, none⟩) l.length tk] w1 (Gives w1 (some ⟨g, 0, none⟩) st l' tk')) :
    Calls Try.prog 43 #[fV u att kind n A len cap, aV st (some ⟨g, 0, none⟩) l.length tk, .bool true, .pointer (some ⟨gf, 0, none⟩)] w (Gives w (some ⟨g, 0, none⟩) st l' tk') := by
  have hlt := lt_of_heap hg
  have hltf := World.block_lt_of_cell? w _ hf
  unfold fV aV at *
  have Hdo := Lib.hid hdo
  have Hg := Lib.hid hg
  clear hg hdo
  go_enter Try.func43, Try.ntmps43
  go_wp2_with fail
  refine (Hdo.out _ (below3 w _ _ _)).mono ?_
  rintro e w1 ⟨A', rfl, hown, hnew, hfr⟩
  have c2 := blk_cells (w := w1) (b := w.heap.size + 1 + 1) (cs := #[.int .i64 0, .slice none 0 0, .int .i64 0]) (t := 35) ((hfr.block _ (by simp) (by simp [blk]; omega)).trans (by simp only [heap_alloc_if, World.size_alloc]; simp))
  have Hown := Lib.hid hown
  have Hnew := Lib.hid hnew
  have Hfr := Lib.hid hfr
  clear hown hnew hfr
  unfold aV
  go_wp2
  refine bodyPost_ret (v := aV st A' l'.length tk') ?_ rfl ⟨_, rfl, ?_, ?_, ?_⟩
  · simp [aV, results, Try.results43, go_sem, c2]
  · have h2 := c2.2.2
    rcases Hown.out with ⟨rfl, rfl⟩ | ⟨g1, rfl, hh⟩
    · exact .inl ⟨rfl, rfl⟩
    · have hg1 : g1 ≠ w.heap.size + 1 + 1 := by
        rintro rfl
        rcases Hnew.out _ rfl with h | h
        · simp at h; omega
        · cases h; omega
      refine .inr ⟨g1, rfl, ?_⟩
      rw [Below.heap_setCell _ _ _ _ hg1, Below.heap_setCell _ _ _ _ hg1, Below.heap_setCell _ _ _ _ hg1]
      exact hh
  · intro a ha
    rcases Hnew.out _ ha with h | h
    · simp at h; exact .inl (by omega)
    · exact .inr h
  · have hf1 : Fr [g] w w1 := (Fr.of_below (below3 w _ _ _) _).trans Hfr.out
    have hs : ∀ (i : Nat) (v : Value) (x : World), Fr ((w.heap.size + 1 + 1) :: [g]) x (x.setCell ⟨w.heap.size + 1 + 1, i, none⟩ v) := fun i v x => Fr.setCell _ _ _ _ (by simp)
    exact hf1.fresh (g := w.heap.size + 1 + 1) (by omega) (((hs _ _ _).trans (hs _ _ _)).trans (hs _ _ _))

end Go.Proofs.Ytpblaclhfcomeaa
