/-
  told: a file system is told an operation.
-/
import Derived.Test.YtaolddgnannojaaDoorFsUp
namespace Go.Proofs.YtaolddgnannojaaDoor
open Go.RowKit Go.Maps

attribute [local go_sem] lt1 lt2 lt3 lt4 lt5 lt6

/-- an operation -/
structure OpC where
  kind : Int
  n : Int
  m : Int
  name : ByteArray
  to : ByteArray
  b : List UInt8
structure OpOk (o : OpC) : Prop where
  name : o.name.size ≤ 1048576
  to : o.to.size ≤ 1048576
  b : o.b.length ≤ 1048576
  kind : -9223372036854775808 ≤ o.kind ∧ o.kind ≤ 9223372036854775807
  n : -9223372036854775808 ≤ o.n ∧ o.n ≤ 9223372036854775807
  m : -9223372036854775808 ≤ o.m ∧ o.m ≤ 9223372036854775807
def opCells (o : OpC) (A : Option Addr) (c : Nat) : Array Value := #[.int .i64 o.kind, .int .i64 o.n, .int .i64 o.m, .string o.name, .string o.to, .slice A o.b.length c]
def FsSt.told (S : FsSt) (o : OpC) : Nat × FsSt :=
  if o.kind = 0 then S.write o.name o.b else if o.kind = 1 then S.append o.name o.b else if o.kind = 2 then S.sync o.name else if o.kind = 3 then S.rename o.name o.to
  else if o.kind = 4 then S.remove o.name else if o.kind = 5 then S.syncdir o.name else if o.kind = 6 then (0, { S with armed := (max o.n 0).toNat }) else if o.kind = 7 then (0, S.crash o.n o.m) else (0, S)
theorem UpPost.mono {K K' : Nat} {w : World} {M : FsMem} {S : FsSt} {n : Nat} {e : Ending} {w' : World} (h : UpPost K w M S n e w') (hK : K ≤ K') : UpPost K' w M S n e w' := by
  obtain ⟨he, M', h1, h2⟩ := h
  exact ⟨he, M', h1.mono hK, h2⟩
set_option maxHeartbeats 8000000 in
set_option maxRecDepth 10000 in
theorem told_any {K : Nat} {w : World} {M : FsMem} {S : FsSt} (h : FsUp K w M S) (o : OpC) (ho : OpOk o) (hK : K + 2 + o.b.length ≤ 1048576) (A : Option Addr) (c : Nat) (hb : Bs w A c o.b) (hout : Out M A o.b) :
    Calls Tryd.prog 29 #[.pointer (some ⟨M.fb, 0, none⟩), .agg (opCells o A c)] w (UpPost (K + 2 + o.b.length) w M (S.told o).2 (S.told o).1) := by
  obtain ⟨P, hP⟩ : ∃ P, P = UpPost (K + 2 + o.b.length) w M (S.told o).2 (S.told o).1 := ⟨_, rfl⟩
  rw [← hP]
  have HP := Lib.hid hP
  have hb0 : Below w.heap.size w (w.alloc (.cells (opCells o A c) 46)) := (Below.refl _ _).alloc (Nat.le_refl _) _
  have H0 := Lib.hid (h.below hb0)
  have G0 := Lib.hid (Gr.of_below (M := M) hb0)
  have Hb := Lib.hid (hb.keep (Cells.of_below hb0))
  have Hout := Lib.hid hout
  have hnew := heap_alloc_new w (.cells (opCells o A c) 46)
  have q0 : (w.alloc (.cells (opCells o A c) 46)).cell? ⟨w.heap.size, 0, none⟩ = some (.int .i64 o.kind) := (blk_cells hnew).1 0
  have q1 : (w.alloc (.cells (opCells o A c) 46)).cell? ⟨w.heap.size, 1, none⟩ = some (.int .i64 o.n) := (blk_cells hnew).1 1
  have q2 : (w.alloc (.cells (opCells o A c) 46)).cell? ⟨w.heap.size, 2, none⟩ = some (.int .i64 o.m) := (blk_cells hnew).1 2
  have q3 : (w.alloc (.cells (opCells o A c) 46)).cell? ⟨w.heap.size, 3, none⟩ = some (.string o.name) := (blk_cells hnew).1 3
  have q4 : (w.alloc (.cells (opCells o A c) 46)).cell? ⟨w.heap.size, 4, none⟩ = some (.string o.to) := (blk_cells hnew).1 4
  have q5 : (w.alloc (.cells (opCells o A c) 46)).cell? ⟨w.heap.size, 5, none⟩ = some (.slice A o.b.length c) := (blk_cells hnew).1 5
  have fin : ∀ (n : Nat) (S' : FsSt) (e : Ending) (w' : World), S.told o = (n, S') → UpPost (K + 2 + o.b.length) (w.alloc (.cells (opCells o A c) 46)) M S' n e w' → P e w' := fun n S' e w' ht ⟨he, M', h1, h2⟩ => by
    rw [HP.out, ht]
    exact ⟨he, M', h1, G0.out.trans h2⟩
  have Fin := Lib.hid fin
  have hkd := ho.kind
  clear hP h hb hout hnew fin hb0
  obtain ⟨kd, on, om, nm, to, b⟩ := o
  simp only at hkd q0 q1 q2 q3 q4 q5
  unfold opCells at *
  simp only at *
  by_cases hk : kd = 0
  · subst hk
    go_enter Tryd.func29, Tryd.ntmps29
    go_wp2_with fail
    refine (up_write H0.out nm ho.name b hK A c Hb.out Hout.out).mono ?_
    rintro e w2 ⟨rfl, M2, h2, g2⟩
    have Hfin := Lib.hid (Fin.out _ _ _ _ rfl ⟨rfl, M2, h2.mono (by omega), g2⟩)
    clear h2 g2
    go_wp2_with fail
    refine (num_any _ _).mono ?_
    rintro e w3 ⟨rfl, rfl⟩
    go_wp2_with fail
    exact Hfin.out
  by_cases hk : kd = 1
  · subst hk
    go_enter Tryd.func29, Tryd.ntmps29
    go_wp2_with fail
    refine (up_append H0.out nm ho.name b hK A c Hb.out Hout.out).mono ?_
    rintro e w2 ⟨rfl, M2, h2, g2⟩
    have Hfin := Lib.hid (Fin.out _ _ _ _ rfl ⟨rfl, M2, h2.mono (by omega), g2⟩)
    clear h2 g2
    go_wp2_with fail
    refine (num_any _ _).mono ?_
    rintro e w3 ⟨rfl, rfl⟩
    go_wp2_with fail
    exact Hfin.out
  by_cases hk : kd = 2
  · subst hk
    go_enter Tryd.func29, Tryd.ntmps29
    go_wp2_with fail
    refine (up_sync H0.out nm ho.name (by omega)).mono ?_
    rintro e w2 ⟨rfl, M2, h2, g2⟩
    have Hfin := Lib.hid (Fin.out _ _ _ _ rfl ⟨rfl, M2, h2.mono (by omega), g2⟩)
    clear h2 g2
    go_wp2_with fail
    refine (num_any _ _).mono ?_
    rintro e w3 ⟨rfl, rfl⟩
    go_wp2_with fail
    exact Hfin.out
  by_cases hk : kd = 3
  · subst hk
    go_enter Tryd.func29, Tryd.ntmps29
    go_wp2_with fail
    refine (up_rename H0.out nm to ho.name ho.to (by omega)).mono ?_
    rintro e w2 ⟨rfl, M2, h2, g2⟩
    have Hfin := Lib.hid (Fin.out _ _ _ _ rfl ⟨rfl, M2, h2.mono (by omega), g2⟩)
    clear h2 g2
    go_wp2_with fail
    refine (num_any _ _).mono ?_
    rintro e w3 ⟨rfl, rfl⟩
    go_wp2_with fail
    exact Hfin.out
  by_cases hk : kd = 4
  · subst hk
    go_enter Tryd.func29, Tryd.ntmps29
    go_wp2_with fail
    refine (up_remove H0.out nm ho.name (by omega)).mono ?_
    rintro e w2 ⟨rfl, M2, h2, g2⟩
    have Hfin := Lib.hid (Fin.out _ _ _ _ rfl ⟨rfl, M2, h2.mono (by omega), g2⟩)
    clear h2 g2
    go_wp2_with fail
    refine (num_any _ _).mono ?_
    rintro e w3 ⟨rfl, rfl⟩
    go_wp2_with fail
    exact Hfin.out
  by_cases hk : kd = 5
  · subst hk
    go_enter Tryd.func29, Tryd.ntmps29
    go_wp2_with fail
    refine (up_syncdir H0.out nm ho.name (by omega)).mono ?_
    rintro e w2 ⟨rfl, M2, h2, g2⟩
    have Hfin := Lib.hid (Fin.out _ _ _ _ rfl ⟨rfl, M2, h2.mono (by omega), g2⟩)
    clear h2 g2
    go_wp2_with fail
    refine (num_any _ _).mono ?_
    rintro e w3 ⟨rfl, rfl⟩
    go_wp2_with fail
    exact Hfin.out
  by_cases hk : kd = 6
  · subst hk
    go_enter Tryd.func29, Tryd.ntmps29
    go_wp2_with fail
    refine (up_arm H0.out on ho.n.2).mono ?_
    rintro e w2 ⟨rfl, M2, h2, g2⟩
    have Hfin := Lib.hid (Fin.out _ _ _ _ rfl ⟨rfl, M2, h2.mono (by omega), g2⟩)
    clear h2 g2
    go_wp2_with fail
    exact Hfin.out
  by_cases hk : kd = 7
  · subst hk
    go_enter Tryd.func29, Tryd.ntmps29
    go_wp2_with fail
    refine (up_crash H0.out (by omega) on om ho.n.2 ho.m.2).mono ?_
    rintro e w2 ⟨rfl, M2, h2, g2⟩
    have Hfin := Lib.hid (Fin.out _ _ _ _ rfl ⟨rfl, M2, h2.mono (by omega), g2⟩)
    clear h2 g2
    go_wp2_with fail
    exact Hfin.out
  have hno : S.told ⟨kd, on, om, nm, to, b⟩ = (0, S) := by simp_all [FsSt.told]
  have Hfin := Lib.hid (Fin.out 0 S (.returned (.int .i64 ((0 : Nat) : Int))) (w.alloc (.cells #[.int .i64 kd, .int .i64 on, .int .i64 om, .string nm, .string to, .slice A b.length c] 46)) hno ⟨rfl, M, H0.out.mono (by omega), Gr.refl _ _⟩)
  have b0 : (kd == 0) = false := by simp_all
  have b1 : (kd == 1) = false := by simp_all
  have b2 : (kd == 2) = false := by simp_all
  have b3 : (kd == 3) = false := by simp_all
  have b4 : (kd == 4) = false := by simp_all
  have b5 : (kd == 5) = false := by simp_all
  have b6 : (kd == 6) = false := by simp_all
  have b7 : (kd == 7) = false := by simp_all
  go_enter Tryd.func29, Tryd.ntmps29
  go_wp2_with fail
  exact Hfin.out
end Go.Proofs.YtaolddgnannojaaDoor
