/-
  The changes of names: what their functions do to a map.
-/
import Derived.Test.YtaolddgnannojaaDoorFsKeep
import Derived.Conc.MuLone
namespace Go.Proofs.YtaolddgnannojaaDoor
open Go.RowKit Go.Maps

attribute [local go_sem] lt1 lt2 lt3 lt4 lt5 lt6

theorem own_size {w : World} {k : TypeId} {R : Value → Option (Dm × List MemPlace)} {b n : Nat} {D : Dm} (h : w.ownsMap Tryd.prog k R b n D) : w.ownsMap Tryd.prog k R b (Maps.size D) D := by
  obtain ⟨es, clock, he, F, _, hD⟩ := h
  refine ⟨es, clock, he, F, ?_, hD⟩
  rw [hD, size_eq, length_read]
  exact Nat.le_refl _
def ChgPost (w : World) (b : Nat) (D : Dm) (e : Ending) (w' : World) : Prop := e = .returned (.tuple #[]) ∧ OwnN w' b D ∧ w.grownBy w' (some b)
theorem plainNat (k : Nat) (hk : k ≤ 9223372036854775807) : plainElem (H := Unit) Tryd.prog 3 (.int .i64 (k : Nat)) = some (nval k, []) := plainElem_int Tryd.underlying3 (WalkArith.wf_i64 (n := (k : Int)) (by omega))
theorem chg_put (w : World) (b : Nat) (D : Dm) (n : ByteArray) (k ga gb : Nat) (hD : OwnN w b D) (hl : Maps.size D < maxLen) (hn : n.size ≤ maxLen) (hk : k ≤ 9223372036854775807)
    (h1 : w.heap[ga]? = some (.cells #[.string n] 9 (0, 0))) (h2 : w.heap[gb]? = some (.cells #[.int .i64 (k : Nat)] 3 (0, 0))) :
    Calls Tryd.prog 40 #[.map (some b), .pointer (some ⟨gb, 0, none⟩), .pointer (some ⟨ga, 0, none⟩)] w (ChgPost w b (Chg.on (.put n k) D)) := by
  have c1 : w.cell? ⟨ga, 0, none⟩ = some (.string n) := (blk_cells h1).1 0
  have c2 : w.cell? ⟨gb, 0, none⟩ = some (.int .i64 (k : Nat)) := (blk_cells h2).1 0
  have HD := Lib.hid hD
  clear hD h1 h2
  go_enter Tryd.func40, Tryd.ntmps40
  go_wp2_with (first | (at_mapUpdate; refine wpList_mapUpdate_own _ rfl _ _ _ 60 rfl 9 3 strK Tryd.underlying60 _ b _ D rfl HD.out hl _ _ _ rfl rfl (WideMaps.keyOf_string_mk Tryd.underlying9 hn) _ [] (plainNat k hk) ?_) | go_in)
  intro w1 hown hg
  have Hown := Lib.hid (own_size hown)
  have Hg := Lib.hid hg
  clear hown hg
  go_wp2_with fail
  go_end0
  exact ⟨rfl, Hown.out, Hg.out⟩
theorem chg_del (w : World) (b : Nat) (D : Dm) (n : ByteArray) (ga : Nat) (hD : OwnN w b D) (hn : n.size ≤ maxLen) (h1 : w.heap[ga]? = some (.cells #[.string n] 9 (0, 0))) :
    Calls Tryd.prog 70 #[.map (some b), .pointer (some ⟨ga, 0, none⟩)] w (ChgPost w b (Chg.on (.del n) D)) := by
  have c1 : w.cell? ⟨ga, 0, none⟩ = some (.string n) := (blk_cells h1).1 0
  have HD := Lib.hid hD
  clear hD h1
  go_enter Tryd.func70, Tryd.ntmps70
  go_wp2_with (first | (at_delete; refine wpList_delete_own _ rfl _ _ 60 9 rfl 3 strK Tryd.underlying60 _ b _ D rfl HD.out _ _ rfl (WideMaps.keyOf_string_mk Tryd.underlying9 hn) ?_) | go_in)
  intro w1 hown hg
  have Hown := Lib.hid (own_size hown)
  have Hg := Lib.hid hg.grown
  clear hown hg
  go_wp2_with fail
  go_end0
  exact ⟨rfl, Hown.out, Hg.out⟩
theorem chg_move (w : World) (b : Nat) (D : Dm) (n n' : ByteArray) (k ga gb gd : Nat) (hD : OwnN w b D) (hl : Maps.size D < maxLen) (hn : n.size ≤ maxLen) (hn' : n'.size ≤ maxLen) (hk : k ≤ 9223372036854775807)
    (h1 : w.heap[ga]? = some (.cells #[.string n] 9 (0, 0))) (h2 : w.heap[gb]? = some (.cells #[.string n'] 9 (0, 0))) (h3 : w.heap[gd]? = some (.cells #[.int .i64 (k : Nat)] 3 (0, 0))) :
    Calls Tryd.prog 53 #[.map (some b), .pointer (some ⟨ga, 0, none⟩), .pointer (some ⟨gd, 0, none⟩), .pointer (some ⟨gb, 0, none⟩)] w (ChgPost w b (Chg.on (.move n n' k) D)) := by
  have c1 : w.cell? ⟨ga, 0, none⟩ = some (.string n) := (blk_cells h1).1 0
  have hbm : ∃ es c, w.heap[b]? = some (.map es c) := by obtain ⟨es, c, he, _⟩ := hD; exact ⟨es, c, he⟩
  have HD := Lib.hid hD
  have H2 := Lib.hid h2
  have H3 := Lib.hid h3
  clear hD h1 h2 h3
  go_enter Tryd.func53, Tryd.ntmps53
  go_wp2_with (first | (at_delete; refine wpList_delete_own _ rfl _ _ 60 9 rfl 3 strK Tryd.underlying60 _ b _ D rfl HD.out _ _ rfl (WideMaps.keyOf_string_mk Tryd.underlying9 hn) ?_) | go_in)
  intro w1 hown hg
  have hne : ∀ {g : Nat} {cs : Array Value} {t : TypeId}, w.heap[g]? = some (.cells cs t (0, 0)) → w1.heap[g]? = some (.cells cs t (0, 0)) := fun {g cs t} h => by
    refine (hg.grown.block g (lt_of_heap h) fun e => ?_).trans h
    obtain ⟨es, c, he⟩ := hbm
    cases e
    rw [h] at he
    cases he
  have c2 : w1.cell? ⟨gb, 0, none⟩ = some (.string n') := (blk_cells (hne H2.out)).1 0
  have c3 : w1.cell? ⟨gd, 0, none⟩ = some (.int .i64 (k : Nat)) := (blk_cells (hne H3.out)).1 0
  have Hg := Lib.hid hg.grown
  have hsz : Maps.size (D.del (sk n)) < maxLen := by have h5 : Maps.size (D.del (sk n)) ≤ Maps.size D := hown.size_le; omega
  have Hown := Lib.hid (own_size hown)
  clear hown hg hne
  go_wp2_with (first | (at_mapUpdate; refine wpList_mapUpdate_own _ rfl _ _ _ 60 rfl 9 3 strK Tryd.underlying60 _ b _ (D.del (sk n)) rfl Hown.out hsz _ _ _ rfl rfl (WideMaps.keyOf_string_mk Tryd.underlying9 hn') _ [] (plainNat k hk) ?_) | go_in)
  intro w2 hown2 hg2
  have Hown2 := Lib.hid (own_size hown2)
  have Hg2 := Lib.hid (Hg.out.andThen hg2 fun j hj => .inr hj)
  clear hown2 hg2
  go_wp2_with fail
  go_end0
  exact ⟨rfl, Hown2.out, Hg2.out⟩
theorem enter_put (args : Array Value) (w : World) : (callFunc 40 args).run Tryd.prog w = .ok (.enter 40 args) w := Go.MuLone.run_callFunc_enter Tryd.func40 (by kernel_rfl) rfl args w
theorem enter_move (args : Array Value) (w : World) : (callFunc 53 args).run Tryd.prog w = .ok (.enter 53 args) w := Go.MuLone.run_callFunc_enter Tryd.func53 (by kernel_rfl) rfl args w
theorem enter_del (args : Array Value) (w : World) : (callFunc 70 args).run Tryd.prog w = .ok (.enter 70 args) w := Go.MuLone.run_callFunc_enter Tryd.func70 (by kernel_rfl) rfl args w
/-- what a change's function does -/
theorem chg_any (w : World) (b : Nat) (D : Dm) (c : Chg) (v : Value) (h : ChgAt w c v) (hD : OwnN w b D) (hl : Maps.size D < maxLen) :
    ∃ F cs, v = .func (.func F) #[] cs ∧ (∀ args w, (callFunc F args).run Tryd.prog w = .ok (.enter F args) w) ∧ Calls Tryd.prog F (#[.map (some b)] ++ cs) w (ChgPost w b (c.on D)) := by
  cases c with
  | put n k =>
    obtain ⟨z1, z2, ga, gb, rfl, h1, h2⟩ := h
    exact ⟨_, _, rfl, enter_put, chg_put w b D n k ga gb hD hl z1 z2 h1 h2⟩
  | move n n' k =>
    obtain ⟨z1, z2, z3, ga, gb, gd, rfl, h1, h2, h3⟩ := h
    exact ⟨_, _, rfl, enter_move, chg_move w b D n n' k ga gb gd hD hl z1 z2 z3 h1 h2 h3⟩
  | del n =>
    obtain ⟨z1, ga, rfl, h1⟩ := h
    exact ⟨_, _, rfl, enter_del, chg_del w b D n ga hD z1 h1⟩
end Go.Proofs.YtaolddgnannojaaDoor
