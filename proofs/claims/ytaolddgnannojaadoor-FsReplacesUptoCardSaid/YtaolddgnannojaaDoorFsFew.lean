/-
  A slice of operations; Few; made: a file system behind operations.
-/
import Derived.Test.YtaolddgnannojaaDoorFsFirst
namespace Go.Proofs.YtaolddgnannojaaDoor
open Go.RowKit Go.Maps

attribute [local go_sem] lt1 lt2 lt3 lt4 lt5 lt6

def noOp : OpC := ⟨0, 0, 0, ⟨#[]⟩, ⟨#[]⟩, []⟩
structure OpIn (w : World) (b o : Nat) (q : OpC) : Prop where
  ok : OpOk q
  cells : ∃ A c, Bs w A c q.b ∧ ∀ j, j < 6 → w.cell? ⟨b, o + j, none⟩ = (opCells q A c)[j]?
theorem OpIn.keep {w w' : World} {b o : Nat} {q : OpC} (h : OpIn w b o q) (hc : Cells w w') : OpIn w' b o q := by
  obtain ⟨A, c, h1, h3⟩ := h.cells
  refine ⟨h.ok, A, c, h1.keep hc, fun j hj => ?_⟩
  have := h3 j hj
  have hs : (opCells q A c)[j]? = some ((opCells q A c)[j]'(by simpa [opCells] using hj)) := Array.getElem?_eq_getElem _
  rw [hs] at this ⊢
  exact hc _ _ this
/-- a slice of operations -/
structure OpAt (w : World) (A : Option Addr) (cap : Nat) (l : List OpC) : Prop where
  nil : A = none → l = [] ∧ cap = 0
  le : l.length ≤ cap
  big : cap ≤ maxLen
  cells : 0 < l.length → ∃ b o, A = some ⟨b, o, none⟩ ∧ ∀ i q, l[i]? = some q → OpIn w b (o + i * 6) q
theorem OpAt.keep {w w' : World} {A : Option Addr} {cap : Nat} {l : List OpC} (h : OpAt w A cap l) (hc : Cells w w') : OpAt w' A cap l :=
  ⟨h.nil, h.le, h.big, fun hp => by
    obtain ⟨b, o, rfl, hx⟩ := h.cells hp
    exact ⟨b, o, rfl, fun i q hi => (hx i q hi).keep hc⟩⟩
theorem OpAt.len {w : World} {A : Option Addr} {cap : Nat} {l : List OpC} (h : OpAt w A cap l) : l.length ≤ 9223372036854775807 := by
  have h1 := h.le; have h2 := h.big; unfold maxLen at h2; omega
/-- an operation out of the slice, its cells as the walk takes them -/
theorem OpAt.at_ {w : World} {A : Option Addr} {cap : Nat} {l : List OpC} (h : OpAt w A cap l) {k : Nat} (hk : k < l.length) : ∃ b o B c, A = some ⟨b, o, none⟩ ∧ OpOk (l.getD k noOp) ∧ Bs w B c (l.getD k noOp).b ∧
    (w.cell? ⟨b, o + k * 6, none⟩ = some (.int .i64 (l.getD k noOp).kind) ∧ w.cell? ⟨b, o + k * 6 + 1, none⟩ = some (.int .i64 (l.getD k noOp).n) ∧ w.cell? ⟨b, o + k * 6 + 2, none⟩ = some (.int .i64 (l.getD k noOp).m)) ∧
    w.cell? ⟨b, o + k * 6 + 3, none⟩ = some (.string (l.getD k noOp).name) ∧ w.cell? ⟨b, o + k * 6 + 4, none⟩ = some (.string (l.getD k noOp).to) ∧ w.cell? ⟨b, o + k * 6 + 5, none⟩ = some (.slice B (l.getD k noOp).b.length c) := by
  obtain ⟨b, o, rfl, hx⟩ := h.cells (by omega)
  have hin := hx k (l.getD k noOp) (by rw [List.getD_eq_getElem?_getD, List.getElem?_eq_getElem hk]; rfl)
  obtain ⟨B, c, h1, h3⟩ := hin.cells
  exact ⟨b, o, B, c, rfl, hin.ok, h1, ⟨h3 0 (by omega), h3 1 (by omega), h3 2 (by omega)⟩, h3 3 (by omega), h3 4 (by omega), h3 5 (by omega)⟩
def FewRel (w : World) (len : Nat) (s i : Value) (wr : World) : Prop := ∃ (acc : Int) (k : Nat), s = .int .i64 acc ∧ 0 ≤ acc ∧ acc ≤ 40000 ∧ i = .int .i64 k ∧ k ≤ len ∧ k ≤ 300 ∧ ∃ n, wr = w.drewN n
def FewPost (w : World) (e : Ending) (w' : World) : Prop := ∃ r : Bool, e = .returned (.bool r) ∧ ∃ n, w' = w.drewN n
set_option maxHeartbeats 4000000 in
set_option maxRecDepth 100000 in
theorem few_any (w : World) (A : Option Addr) (c : Nat) (l : List OpC) (h : OpAt w A c l) : Calls Tryd.prog 15 #[.slice A l.length c] w (FewPost w) := by
  have hl := h.len
  have H := Lib.hid h
  clear h
  go_enter Tryd.func15, Tryd.ntmps15
  go_wp2
  go_loopw [3, 4] (fun s i wr => FewRel w l.length s i wr) (fun _ i _ => l.length - (intOf i).toNat)
  case atStart => exact ⟨0, 0, rfl, by omega, by omega, rfl, by omega, by omega, 0, rfl⟩
  case round =>
    obtain ⟨acc, k, rfl, ha, hb, rfl, hk, hkh, n, rfl⟩ := hrel
    by_cases hgo : k < l.length ∧ k < 300
    · obtain ⟨hlt, hlt2⟩ := hgo
      obtain ⟨b, o, B, cB, rfl, hok, hbs, _, q3, q4, q5⟩ := H.out.at_ hlt
      have e1 := hok.name
      have e2 := hok.to
      have e3 := hok.b
      generalize l.getD k noOp = q at *
      clear hbs
      go_wp2_with fail
      go_quiet (fail)
      go_wp2
      go_roundw
      case rel => exact ⟨_, k + 1, rfl, by omega, by omega, by go_num, by omega, by omega, _, rfl⟩
      case measure => simp [intOf]; omega
    · have hways : ¬ k < l.length ∨ (k < l.length ∧ ¬ k < 300) := by omega
      clear hgo
      rcases hways with hlt | ⟨hlt, hlt2⟩
      all_goals
        go_wp2
      all_goals
        go_ret
        exact ⟨_, rfl, _, rfl⟩
/-- what the operations may add -/
def wt (l : List OpC) : Nat := (l.map fun o => 2 + o.b.length).sum
theorem wt_take {l : List OpC} {k : Nat} (h : k < l.length) : wt (l.take (k + 1)) = wt (l.take k) + (2 + (l.getD k noOp).b.length) := by
  have hg : l.getD k noOp = l[k] := by simp [List.getD_eq_getElem?_getD, h]
  rw [hg]
  unfold wt
  rw [List.take_succ_eq_append_getElem h, List.map_append, List.sum_append]
  simp only [List.map_cons, List.map_nil, List.sum_cons, List.sum_nil, Nat.add_zero]
theorem wt_le (l : List OpC) (k : Nat) : wt (l.take k) ≤ wt l := by
  unfold wt
  conv => rhs; rw [← List.take_append_drop k l]
  rw [List.map_append, List.sum_append]
  omega
/-- told all of them -/
def FsSt.tells (S : FsSt) (l : List OpC) : FsSt := l.foldl (fun S o => (S.told o).2) S
theorem tells_take {S : FsSt} {l : List OpC} {k : Nat} (h : k < l.length) : S.tells (l.take (k + 1)) = ((S.tells (l.take k)).told (l.getD k noOp)).2 := by
  unfold FsSt.tells
  rw [List.take_succ_eq_append_getElem h, List.foldl_append]
  simp [List.getD_eq_getElem?_getD, h]
/-- a file system in order, all above a world -/
structure Held (K : Nat) (w0 w : World) (M : FsMem) (S : FsSt) : Prop where
  up : FsUp K w M S
  below : Below w0.heap.size w0 w
  own : ∀ k, k ∈ M.own → w0.heap.size ≤ k
theorem Held.out {K : Nat} {w0 w : World} {M : FsMem} {S : FsSt} (h : Held K w0 w M S) {A : Option Addr} {c : Nat} {d : List UInt8} (hb : Bs w0 A c d) : Out M A d := fun hn a ha hh => by
  obtain ⟨b, o, hA, hc⟩ := hb.cells hn
  rw [ha] at hA
  cases hA
  have h1 := World.block_lt_of_cell? w0 ⟨b, o + 0, none⟩ ((hc 0 (by omega)).trans (u8s_at hn))
  have h2 := h.own _ hh
  simp only at h1 h2
  omega
theorem Held.bs {K : Nat} {w0 w : World} {M : FsMem} {S : FsSt} (h : Held K w0 w M S) {A : Option Addr} {c : Nat} {d : List UInt8} (hb : Bs w0 A c d) : Bs w A c d := hb.keep (Cells.of_below h.below)
theorem Held.next {K K' : Nat} {w0 w w' : World} {M M' : FsMem} {S S' : FsSt} (h : Held K w0 w M S) (hu : FsUp K' w' M' S') (hg : Gr M w M' w') : Held K' w0 w' M' S' :=
  let ⟨h1, h2⟩ := hg.above h.below h.own
  ⟨hu, h1, h2⟩
theorem Held.low {K : Nat} {w0 w w' : World} {M : FsMem} {S : FsSt} (h : Held K w0 w M S) (hb : Below w.heap.size w w') : Held K w0 w' M S := ⟨h.up.below hb, h.below.trans (hb.mono h.below.size), h.own⟩
theorem Held.mono {K K' : Nat} {w0 w : World} {M : FsMem} {S : FsSt} (h : Held K w0 w M S) (hK : K ≤ K') : Held K' w0 w M S := ⟨h.up.mono hK, h.below, h.own⟩
/-- it is told an operation that lies in the slice -/
def ToldPost (K : Nat) (w0 w : World) (M : FsMem) (S : FsSt) (n : Nat) (e : Ending) (w' : World) : Prop := e = .returned (.int .i64 (n : Nat)) ∧ ∃ M', Held K w0 w' M' S ∧ Gr M w M' w'
theorem Held.told {K : Nat} {w0 w : World} {M : FsMem} {S : FsSt} (h : Held K w0 w M S) (o : OpC) (ho : OpOk o) (hK : K + (2 + o.b.length) ≤ 1048576) {A : Option Addr} {c : Nat} (hb : Bs w0 A c o.b) :
    Calls Tryd.prog 29 #[.pointer (some ⟨M.fb, 0, none⟩), .agg (opCells o A c)] w (ToldPost (K + (2 + o.b.length)) w0 w M (S.told o).2 (S.told o).1) :=
  (told_any h.up o ho (by omega) A c (h.bs hb) (h.out hb)).mono fun _ _ ⟨he, M', h1, h2⟩ => ⟨he, M', h.next (h1.mono (by omega)) h2, h2⟩
end Go.Proofs.YtaolddgnannojaaDoor
