/-
  New, Arm, Size, Steps, Down, Read.
-/
import Derived.Test.YtaolddgnannojaaDoorFsSyncDir
namespace Go.Proofs.YtaolddgnannojaaDoor
open Go.RowKit Go.Maps

attribute [local go_sem] lt1 lt2 lt3 lt4 lt5 lt6

def newS (q : Int) : FsSt := ⟨(min (max q 0) 67108864).toNat, [], 0, .map [], .map [], 0, [], 0, 0, false⟩
def NewPost (w : World) (S : FsSt) (e : Ending) (w' : World) : Prop := ∃ M : FsMem, e = .returned (.pointer (some ⟨M.fb, 0, none⟩)) ∧ FsAt w' M S ∧ Below w.heap.size w w' ∧ ∀ k, k ∈ M.own → w.heap.size ≤ k
set_option maxHeartbeats 4000000 in
set_option maxRecDepth 10000 in
theorem new_any (w : World) (q : Int) : Calls Tryd.prog 10 #[.int .i64 q] w (NewPost w (newS q)) := by
  have hmm := @run_makeMap Tryd.prog
  go_enter Tryd.func10, Tryd.ntmps10
  go_wp2_with fail
  go_ret
  have e1 : (((min (max q 0) 67108864).toNat : Nat) : Int) = min (max q 0) 67108864 := Int.toNat_of_nonneg (by omega)
  have hs1 : (w.alloc (.map #[] 0)).heap.size = w.heap.size + 1 := by simp
  have hs2 : ((w.alloc (.map #[] 0)).alloc (.map #[] 0)).heap.size = w.heap.size + 1 + 1 := by simp
  have hs3 : (((w.alloc (.map #[] 0)).alloc (.map #[] 0)).alloc (.map #[] 0)).heap.size = w.heap.size + 1 + 1 + 1 := by simp
  have m1 := World.ownsMap_made (H := Unit) w Tryd.prog 3 RPtr
  have m2 := World.ownsMap_made (H := Unit) (w.alloc (.map #[] 0)) Tryd.prog 9 (plainElem Tryd.prog 3)
  have m3 := World.ownsMap_made (H := Unit) ((w.alloc (.map #[] 0)).alloc (.map #[] 0)) Tryd.prog 9 (plainElem Tryd.prog 3)
  rw [hs1] at m2
  rw [hs2] at m3
  have hb := heap_alloc_new (((w.alloc (.map #[] 0)).alloc (.map #[] 0)).alloc (.map #[] 0)) (.cells #[.int .i64 (min (max q 0) 67108864), .map (some w.heap.size), .int .i64 0, .map (some (w.heap.size + 1)), .map (some (w.heap.size + 1 + 1)), .int .i64 0, .slice none 0 0, .int .i64 0, .int .i64 0, .bool false] 63)
  rw [hs3] at hb
  refine ⟨⟨w.heap.size + 1 + 1 + 1, w.heap.size, w.heap.size + 1, w.heap.size + 1 + 1, .slice none 0 0, []⟩, rfl, ⟨?_, (m2.alloc _).alloc _, m3.alloc _, Nats.made, Nats.made, (((m1.alloc _).alloc _).alloc _), trivial, ⟨[], trivial, World.ownsRow_nil _ _ _ _⟩, ?_⟩, ?_, ?_⟩
  · unfold newS
    simp only [e1]
    exact hb
  · simp [FsMem.own, Value.ownBlock]
    omega
  · exact (((((Below.refl w.heap.size w).alloc (Nat.le_refl _) _).alloc (by simp) _).alloc (by simp; omega) _).alloc (by simp; omega) _)
  · intro k hk
    simp [FsMem.own, Value.ownBlock] at hk
    omega
theorem arm_any (w : World) (M : FsMem) (S : FsSt) (h : FsAt w M S) (n : Int) (hn : n ≤ 9223372036854775807) :
    Calls Tryd.prog 22 #[.pointer (some ⟨M.fb, 0, none⟩), .int .i64 n] w (LosePost w M { S with armed := (max n 0).toNat }) := by
  have f8 : w.frozen? ⟨M.fb, 8, none⟩ = false := (blk_cells h.blk).2.1 8
  have c8 : w.cell? ⟨M.fb, 8, none⟩ = some (.int .i64 (S.armed : Nat)) := (h.cell 8 _ rfl).1
  obtain ⟨h1, f1⟩ := h.put (S' := { S with armed := (max n 0).toNat }) 8 (.int .i64 (max n 0)) (by
    have e : (((max n 0).toNat : Nat) : Int) = max n 0 := Int.toNat_of_nonneg (by omega)
    show _ = #[Value.int .i64 (S.quota : Nat), .map (some M.fm), .int .i64 (S.last : Nat), .map (some M.nm), .map (some M.dm), .int .i64 S.size, M.pv, .int .i64 (S.steps : Nat), .int .i64 (((max n 0).toNat : Nat) : Int), .bool S.down]
    rw [e]
    rfl) rfl rfl rfl rfl
  have Hfin : Hid (LosePost w M { S with armed := (max n 0).toNat } (.returned (.tuple #[])) (w.setCell ⟨M.fb, 8, none⟩ (.int .i64 (max n 0)))) := Lib.hid ⟨rfl, h1, f1⟩
  clear h h1 f1
  go_enter Tryd.func22, Tryd.ntmps22
  go_wp2_with fail
  go_end0
  exact Hfin.out
theorem size_any (w : World) (M : FsMem) (S : FsSt) (h : FsAt w M S) : Calls Tryd.prog 31 #[.pointer (some ⟨M.fb, 0, none⟩)] w fun e w' => e = .returned (.int .i64 S.size) ∧ w' = w := by
  have c : w.cell? ⟨M.fb, 5, none⟩ = some (.int .i64 S.size) := (h.cell 5 _ rfl).1
  clear h
  go_enter Tryd.func31, Tryd.ntmps31
  go_wp2_with fail
  go_ret
  exact ⟨rfl, rfl⟩
theorem steps_any (w : World) (M : FsMem) (S : FsSt) (h : FsAt w M S) : Calls Tryd.prog 28 #[.pointer (some ⟨M.fb, 0, none⟩)] w fun e w' => e = .returned (.int .i64 (S.steps : Nat)) ∧ w' = w := by
  have c : w.cell? ⟨M.fb, 7, none⟩ = some (.int .i64 (S.steps : Nat)) := (h.cell 7 _ rfl).1
  clear h
  go_enter Tryd.func28, Tryd.ntmps28
  go_wp2_with fail
  go_ret
  exact ⟨rfl, rfl⟩
theorem down_any (w : World) (M : FsMem) (S : FsSt) (h : FsAt w M S) : Calls Tryd.prog 32 #[.pointer (some ⟨M.fb, 0, none⟩)] w fun e w' => e = .returned (.bool S.down) ∧ w' = w := by
  have c : w.cell? ⟨M.fb, 9, none⟩ = some (.bool S.down) := (h.cell 9 _ rfl).1
  clear h
  go_enter Tryd.func32, Tryd.ntmps32
  go_wp2_with fail
  go_ret
  exact ⟨rfl, rfl⟩
/-! ### Read -/
def ReadPost (w : World) (S : FsSt) (name : ByteArray) (e : Ending) (w' : World) : Prop := Below w.heap.size w w' ∧ (match S.of name with
  | none => e = .returned (.tuple #[.slice none 0 0, .int .i64 2])
  | some i => ∃ g, e = .returned (.tuple #[.slice (some ⟨g, 0, none⟩) (S.fileD i).2.d.length (S.fileD i).2.d.length, .int .i64 0]) ∧ w'.heap[g]? = some (.cells (u8s (S.fileD i).2.d).toArray 5 (0, 0)) ∧ w.heap.size ≤ g)
theorem data_bs {w : World} {v : Value} {d : List UInt8} (h : DataAt w v d) : ∃ A c, v = .slice A d.length c ∧ Bs w A c d := by
  rcases h with ⟨rfl, rfl⟩ | ⟨g, cap, cur, rfl, hg, hnc, hcm, hcs, htk⟩
  · exact ⟨none, 0, rfl, Bs.none_ w⟩
  · refine ⟨_, _, rfl, by simp [u8s], by simp, hnc, hcm, fun hn => ⟨g, 0, rfl, fun j hj => ?_⟩⟩
    have hj' : j < (u8s d).length := by simpa [u8s] using hj
    rw [(DataAt.cells hg htk) j _ (List.getElem?_eq_getElem hj'), List.getElem?_eq_getElem hj']
set_option maxHeartbeats 4000000 in
set_option maxRecDepth 10000 in
theorem read_any (w : World) (M : FsMem) (S : FsSt) (K : Nat) (h : FsAt w M S) (hi : FsInv K S) (hK : K ≤ 1048576) (name : ByteArray) (hn : name.size ≤ 1048576) :
    Calls Tryd.prog 24 #[.pointer (some ⟨M.fb, 0, none⟩), .string name] w (ReadPost w S name) := by
  have H := Lib.hid h
  obtain ⟨P, hP⟩ : ∃ P, P = ReadPost w S name := ⟨_, rfl⟩
  rw [← hP]
  have HP := Lib.hid hP
  clear h hP
  go_enter Tryd.func24, Tryd.ntmps24
  go_wp2_with fail
  refine (of_any _ M S H.out name (by unfold maxLen; omega) (hi.name_le hK name)).mono ?_
  rintro e w1 ⟨rfl, nn, rfl⟩
  have H1 := Lib.hid (H.out.drewN nn)
  have HB1 : Hid (Below w.heap.size w (w.drewN nn)) := Lib.hid ⟨rfl, rfl, rfl, Nat.le_refl _, fun _ _ => rfl⟩
  generalize w.drewN nn = w1 at *
  cases hof : S.of name with
  | none =>
    have hpt : M.ptr none = .pointer none := rfl
    rw [hpt]
    go_wp2_with fail
    rw [HP.out]
    unfold ReadPost
    rw [hof]
    exact ⟨HB1.out, rfl⟩
  | some i =>
    obtain ⟨gf, hgf⟩ : ∃ gf, gf = (M.fl.getD i (0, undef)).1 := ⟨_, rfl⟩
    have hpt : M.ptr (some i) = .pointer (some ⟨gf, 0, none⟩) := by rw [hgf]; rfl
    rw [hpt]
    clear hpt
    have hil := S.idx_lt hof
    have hfile := H1.out.fileAt hil
    obtain ⟨Af, cf, hfv, hbs⟩ := data_bs hfile.2
    have hf0 := hfile.1
    rw [hfv, ← hgf] at hf0
    change w1.heap[gf]? = some (.cells #[.slice Af (S.fileD i).2.d.length cf, _] _ _) at hf0
    change Bs w1 Af cf (S.fileD i).2.d at hbs
    have hlk := hi.lenAt i
    change (S.fileD i).2.d.length ≤ K at hlk
    have m1 : w1.cell? ⟨gf, 0, none⟩ = some (.slice Af (S.fileD i).2.d.length cf) := (blk_cells hf0).1 0
    have Hbs := Lib.hid hbs
    clear hfile hfv hf0 hgf hbs
    obtain ⟨d, hd⟩ : ∃ d, d = (S.fileD i).2.d := ⟨_, rfl⟩
    rw [← hd] at m1 Hbs hlk
    have Hd := Lib.hid hd
    clear hd
    go_wp2_with fail
    refine (fresh_any d Af cf w1 (by omega) Hbs.out).mono ?_
    rintro e w2 ⟨g, rfl, hg, hgs, hb2⟩
    have Hfin : Hid (P (.returned (.tuple #[.slice (some ⟨g, 0, none⟩) d.length d.length, .int .i64 0])) w2) := Lib.hid (by
      rw [HP.out]
      unfold ReadPost
      rw [hof]
      have hs := HB1.out.size
      refine ⟨HB1.out.trans (hb2.mono hs), g, ?_, ?_, by omega⟩
      · rw [Hd.out]
      · rw [← Hd.out]; exact hg)
    clear hg hgs hb2
    go_wp2_with fail
    exact Hfin.out
end Go.Proofs.YtaolddgnannojaaDoor
