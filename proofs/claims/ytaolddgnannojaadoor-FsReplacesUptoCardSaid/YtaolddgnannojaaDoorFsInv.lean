/-
  What always holds of a file system, plain; what its memory keeps of the rest.
-/
import Derived.Test.YtaolddgnannojaaDoorFsW1
namespace Go.Proofs.YtaolddgnannojaaDoor
open Go.RowKit Go.Maps

attribute [local go_sem] lt1 lt2 lt3 lt4 lt5 lt6

/-- a map's numbers have files, its names are short -/
structure NamesOk (S : FsSt) (D : Dm) (K : Nat) : Prop where
  size : Maps.size D ≤ K
  short : ∀ s : ByteArray, nget D s ≠ 0 → s.size ≤ 1048576
  has : ∀ s : ByteArray, nget D s ≠ 0 → ∃ i, S.idx (nget D s) = some i
  most : ∀ s : ByteArray, nget D s ≤ K
def Chg.ok (S : FsSt) (K : Nat) : Chg → Nat → Prop
  | .put s k, n => s.size ≤ 1048576 ∧ k ≤ K ∧ n = k ∧ ∃ i, S.idx k = some i
  | .move s s' k, n => s.size ≤ 1048576 ∧ s'.size ≤ 1048576 ∧ k ≤ K ∧ n = k ∧ ∃ i, S.idx k = some i
  | .del s, n => s.size ≤ 1048576 ∧ n = 0
structure FsInv (K : Nat) (S : FsSt) : Prop where
  quota : S.quota ≤ 67108864
  last : S.last ≤ K
  ord : (S.files.map (·.1)).Pairwise (· < ·)
  rng : ∀ e ∈ S.files, 1 ≤ e.1 ∧ e.1 ≤ S.last
  many : S.files.length ≤ K
  sy : ∀ e ∈ S.files, e.2.sy ≤ e.2.d.length ∧ e.2.d.length ≤ K
  names : NamesOk S S.names K
  dur : NamesOk S S.dur K
  pends : S.pend.length ≤ K
  pend : ∀ p ∈ S.pend, p.chg.ok S K p.file
  size : -((K : Int) * K) ≤ S.size ∧ S.size ≤ K * K
  steps : S.steps ≤ K
  armed : S.armed ≤ 9223372036854775807
theorem FsInv.size' {K : Nat} {S : FsSt} (h : FsInv K S) (hK : K ≤ 1048576) : -1099511627776 ≤ S.size ∧ S.size ≤ 1099511627776 := by
  have h1 := h.size
  have h2 : K * K ≤ 1099511627776 := Nat.mul_le_mul hK hK
  rw [← Int.natCast_mul] at h1
  omega
/-! ### what lies outside -/
theorem Gr.maxL {M M' : FsMem} {w w' : World} (h : Gr M w M' w') (hm : MaxL w) (hg : 0 ∉ M.own) : MaxL w' ∧ 0 ∉ M'.own := by
  obtain ⟨m, hm⟩ := hm
  have hl := World.block_lt_of_cell? w ⟨0, 0, none⟩ hm
  refine ⟨⟨m, (World.cell?_of_block (w := w) (w' := w') (a := ⟨0, 0, none⟩) (h.fr.block _ hl hg)).trans hm⟩, fun hh => ?_⟩
  rcases h.new _ hh with h1 | h1
  · exact hg h1
  · have : 0 < w.heap.size := hl
    omega
theorem Out.gr {M M' : FsMem} {w w' : World} {A : Option Addr} {c : Nat} {d : List UInt8} (h : Out M A d) (hg : Gr M w M' w') (hb : Bs w A c d) : Out M' A d ∧ Bs w' A c d :=
  ⟨fun hn a ha hh => by
    rcases hg.new _ hh with h1 | h1
    · exact h hn a ha h1
    · obtain ⟨b, o, hA, hc⟩ := hb.cells hn
      rw [ha] at hA
      cases hA
      have := World.block_lt_of_cell? w ⟨b, o + 0, none⟩ ((hc 0 (by omega)).trans (u8s_at hn))
      simp only at this h1
      omega, hb.out hg.fr h⟩
def FsSt.lenAt (S : FsSt) (i : Nat) : Nat := ((S.files.getD i (0, ⟨[], 0⟩)).2.d).length
theorem FsAt.fileAt {w : World} {M : FsMem} {S : FsSt} (h : FsAt w M S) {i : Nat} (hi : i < S.files.length) : FileAt w (S.files.getD i (0, ⟨[], 0⟩)) (M.fl.getD i (0, undef)) := by
  have hl := h.each.length
  have h1 : S.files[i]? = some (S.files.getD i (0, ⟨[], 0⟩)) := by rw [List.getD_eq_getElem?_getD, List.getElem?_eq_getElem hi]; rfl
  have h2 : M.fl[i]? = some (M.fl.getD i (0, undef)) := by rw [List.getD_eq_getElem?_getD, List.getElem?_eq_getElem (by omega)]; rfl
  exact All2.at2 h.each h1 h2
theorem FsSt.idx_lt {S : FsSt} {n i : Nat} (h : S.idx n = some i) : i < S.files.length := by
  unfold FsSt.idx at h
  rw [List.findIdx?_eq_some_iff_getElem] at h
  exact h.1
theorem FsSt.idx_at {S : FsSt} {n i : Nat} (h : S.idx n = some i) : (S.files.getD i (0, ⟨[], 0⟩)).1 = n := by
  have hl := S.idx_lt h
  unfold FsSt.idx at h
  rw [List.findIdx?_eq_some_iff_getElem] at h
  have := h.2.1
  rw [List.getD_eq_getElem?_getD, List.getElem?_eq_getElem hl]
  simpa using this
theorem data_form {w : World} {v : Value} {d : List UInt8} (h : DataAt w v d) : ∃ A cap, v = .slice A d.length cap := by
  rcases h with ⟨rfl, rfl⟩ | ⟨g, cap, cur, rfl, _⟩
  · exact ⟨none, 0, rfl⟩
  · exact ⟨_, _, rfl⟩
theorem FsInv.lenAt {K : Nat} {S : FsSt} (h : FsInv K S) (i : Nat) : S.lenAt i ≤ K := by
  unfold FsSt.lenAt
  by_cases hi : i < S.files.length
  · rw [List.getD_eq_getElem?_getD, List.getElem?_eq_getElem hi]
    exact (h.sy _ (List.getElem_mem hi)).2
  · rw [List.getD_eq_getElem?_getD, List.getElem?_eq_none (by omega)]
    exact Nat.zero_le _
theorem FsInv.name_le {K : Nat} {S : FsSt} (h : FsInv K S) (hK : K ≤ 1048576) (s : ByteArray) : nget S.names s ≤ 9223372036854775807 := by
  have := h.names.most s
  omega
end Go.Proofs.YtaolddgnannojaaDoor
