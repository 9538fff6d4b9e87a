/-
  Files.
-/
import Derived.Test.YtaolddgnannojaaDoorFsList
namespace Go.Proofs.YtaolddgnannojaaDoor
open Go.RowKit Go.Maps

attribute [local go_sem] lt1 lt2 lt3 lt4 lt5 lt6

def FilesPost (w : World) (L : List Fl) (e : Ending) (w' : World) : Prop := ∃ v, e = .returned v ∧ FlM w' w.heap.size v L ∧ Below w.heap.size w w'
def FilesRel (w : World) (D : List ByteArray) (nv : Value) (L : List Fl) (ov iv : Value) (wr : World) : Prop :=
  ∃ i cs, i ≤ L.length ∧ iv = .int .i64 (i : Nat) ∧ All2 (CFm wr w.heap.size) cs (L.take i) ∧ wr.ownsRow w.heap.size 56 2 ov i cs.flatten ∧ Below w.heap.size w wr ∧ wr.ownsRow w.heap.size 9 1 nv D.length (txs D)
theorem one_file {s : ByteArray} {A : Option Addr} {n c : Nat} : ∀ v ∈ [Value.string s, .slice A n c], v.oneCell' = true := by
  intro v hv
  simp only [List.mem_cons, List.not_mem_nil, or_false] at hv
  rcases hv with rfl | rfl <;> rfl
theorem txs_at {D : List ByteArray} {k : Nat} (h : k < D.length) : (txs D)[k]? = some (.string (D.getD k ⟨#[]⟩)) := by
  unfold txs
  rw [List.getElem?_map, List.getD_eq_getElem?_getD, List.getElem?_eq_getElem h]
  rfl
theorem row_below {w w' : World} {base : Nat} {e : TypeId} {k : Nat} {v : Value} {n : Nat} {xs : List Value} (h : w.ownsRow base e k v n xs) (hb : Below w.heap.size w w') : w'.ownsRow base e k v n xs :=
  own_keep h fun g _ hg => (hb.block g (lt_of_heap hg)).trans hg
theorem filesL_at (S : FsSt) {k : Nat} (hk : k < (keysOf S.names).length) : S.filesL.getD k noFl = ((keysOf S.names).getD k ⟨#[]⟩, dataNo S.files (nget S.names ((keysOf S.names).getD k ⟨#[]⟩))) := by
  unfold FsSt.filesL
  rw [List.getD_eq_getElem?_getD, List.getElem?_map, List.getElem?_eq_getElem hk, List.getD_eq_getElem?_getD, List.getElem?_eq_getElem hk]
  rfl
theorem filesL_len (S : FsSt) : S.filesL.length = (keysOf S.names).length := by unfold FsSt.filesL; simp
theorem of_data {S : FsSt} {s : ByteArray} {i : Nat} (h : S.of s = some i) : (S.fileD i).2.d = dataNo S.files (nget S.names s) := by
  have := S.idx_num (nget S.names s)
  unfold FsSt.of at h
  rw [h] at this
  unfold dataNo
  rw [← this]
  rfl
set_option maxHeartbeats 8000000 in
set_option maxRecDepth 10000 in
theorem files_any (w : World) (M : FsMem) (S : FsSt) (K : Nat) (h : FsAt w M S) (hg : FsGood K S) (hK : K ≤ 1048576) :
    Calls Tryd.prog 26 #[.pointer (some ⟨M.fb, 0, none⟩)] w (FilesPost w S.filesL) := by
  obtain ⟨P, hP⟩ : ∃ P, P = FilesPost w S.filesL := ⟨_, rfl⟩
  rw [← hP]
  have HP := Lib.hid hP
  have H := Lib.hid h
  obtain ⟨iF, hiF, hzF, hsF, hbF⟩ := info_parts infoFile
  have HG := Lib.hid hg
  clear hP h hg
  go_enter Tryd.func26, Tryd.ntmps26
  go_wp2_with fail
  refine (list_any w M S K H.out HG.out.inv hK ⟨#[]⟩ (by decide)).mono ?_
  rintro e w1 ⟨v, rfl, hrow, hb⟩
  rw [listed_all] at hrow
  obtain ⟨An, cn, hv⟩ := own_formT hrow
  subst hv
  have hLl := filesL_len S
  have hDl : (keysOf S.names).length ≤ K := by rw [keysOf_len HG.out.dn]; exact HG.out.inv.names.size
  obtain ⟨L, hL⟩ : ∃ L, L = S.filesL := ⟨_, rfl⟩
  rw [← hL] at hLl HP
  have hat : ∀ k, k < (keysOf S.names).length → L.getD k noFl = ((keysOf S.names).getD k ⟨#[]⟩, dataNo S.files (nget S.names ((keysOf S.names).getD k ⟨#[]⟩))) := fun k hk => by rw [hL]; exact filesL_at S hk
  have hmem : ∀ k, k < (keysOf S.names).length → nget S.names ((keysOf S.names).getD k ⟨#[]⟩) ≠ 0 := fun k hk => (mem_keysOf HG.out.dn).1 (by rw [List.getD_eq_getElem?_getD, List.getElem?_eq_getElem hk]; exact List.getElem_mem hk)
  clear hL
  obtain ⟨D, hD⟩ : ∃ D, D = keysOf S.names := ⟨_, rfl⟩
  rw [← hD] at hLl hDl hat hmem hrow ⊢
  clear hD
  have Hat := Lib.hid hat
  have Hmem := Lib.hid hmem
  have HLl := Lib.hid hLl
  have Hrel0 : Hid (FilesRel w D (.slice An D.length cn) L (.slice none 0 0) (.int .i64 0) w1) := Lib.hid ⟨0, [], by omega, rfl, trivial, World.ownsRow_nil _ _ _ _, hb, hrow⟩
  clear hat hmem hLl hrow hb
  go_wp2_with fail
  go_loopw [3, 9] (fun ov iv wr => FilesRel w D (.slice An D.length cn) L ov iv wr) (fun _ iv _ => D.length - (intOf iv).toNat)
  case atStart => exact Hrel0.out
  case round =>
    clear Hrel0
    obtain ⟨i, cs, hi, rfl, hcs, hrow, hbl, hnrow⟩ := hrel
    obtain ⟨Ao, co, hov⟩ := own_formT hrow
    subst hov
    have hir : (0 : Int) ≤ i := by omega
    have hil := HLl.out
    have Hcs := Lib.hid hcs
    have Hrow := Lib.hid hrow
    have Hbl := Lib.hid hbl
    have Hnrow := Lib.hid hnrow
    clear hcs hrow hbl hnrow
    by_cases hlt : i < D.length
    · have hlI : (i : Int) < D.length := by omega
      obtain ⟨A2, c2, e2, hA0, hA1, _, _⟩ := own_form Hnrow.out
      simp only [Value.slice.injEq, true_and] at e2
      obtain ⟨rfl, rfl⟩ := e2
      obtain ⟨g, hA⟩ : ∃ g, An = some ⟨g, 0, none⟩ := by
        cases An with
        | none => have := (hA0 rfl).1; omega
        | some a => obtain ⟨g, rfl⟩ := hA1 a rfl; exact ⟨g, rfl⟩
      subst hA
      have cn1 := own_cell Hnrow.out (txs_at hlt)
      have hat := Hat.out i hlt
      have hnz := Hmem.out i hlt
      have htk := take_getD (show i < L.length by omega)
      rw [hat] at htk
      obtain ⟨s, hs⟩ : ∃ s, s = D.getD i ⟨#[]⟩ := ⟨_, rfl⟩
      rw [← hs] at cn1 hnz htk
      have hss := HG.out.dn.short hnz
      obtain ⟨j, hof⟩ := HG.out.inv.names.has s hnz
      change S.of s = some j at hof
      rw [← of_data hof] at htk
      have Htk := Lib.hid htk
      have H1 := Lib.hid (H.out.below Hbl.out)
      clear hat hs htk hA0 hA1
      go_wp2_with fail
      refine (of_any wr M S H1.out s (by unfold maxLen; omega) (HG.out.inv.name_le hK s)).mono ?_
      rintro e w2 ⟨rfl, nn, hw2⟩
      have H2 : Hid (FsAt w2 M S) := Lib.hid (by rw [hw2]; exact H1.out.drewN nn)
      have hbw2 : Below wr.heap.size wr w2 := by rw [hw2]; exact ⟨rfl, rfl, rfl, Nat.le_refl _, fun _ _ => rfl⟩
      have Hbw2 := Lib.hid hbw2
      clear hw2 hbw2
      rw [hof]
      obtain ⟨gf, hgf⟩ : ∃ gf, gf = (M.fl.getD j (0, undef)).1 := ⟨_, rfl⟩
      have hpt : M.ptr (some j) = .pointer (some ⟨gf, 0, none⟩) := by rw [hgf]; rfl
      rw [hpt]
      clear hpt
      have hil := S.idx_lt hof
      have hfile := H2.out.fileAt hil
      obtain ⟨Af, cf, hfv, hbs⟩ := data_bs hfile.2
      have hf0 := hfile.1
      rw [hfv, ← hgf] at hf0
      change w2.heap[gf]? = some (.cells #[.slice Af (S.fileD j).2.d.length cf, _] _ _) at hf0
      change Bs w2 Af cf (S.fileD j).2.d at hbs
      have hlk := HG.out.inv.lenAt j
      change (S.fileD j).2.d.length ≤ K at hlk
      have m1 : w2.cell? ⟨gf, 0, none⟩ = some (.slice Af (S.fileD j).2.d.length cf) := (blk_cells hf0).1 0
      have Hbs := Lib.hid hbs
      clear hfile hfv hf0 hgf hbs
      obtain ⟨d, hd⟩ : ∃ d, d = (S.fileD j).2.d := ⟨_, rfl⟩
      rw [← hd] at m1 Hbs hlk Htk
      clear hd hof hnz cn1
      go_wp2_with fail
      refine (fresh_any d Af cf w2 (by omega) Hbs.out).mono ?_
      rintro e w3 ⟨g3, rfl, hg3, hgs3, hb3⟩
      have hsz := Hbl.out.size
      have hbw3 : Below wr.heap.size wr w3 := Hbw2.out.trans (hb3.mono Hbw2.out.size)
      have hrow3 := row_below Hrow.out hbw3
      have hnrow3 := row_below Hnrow.out hbw3
      have hb03 := Hbl.out.trans (hbw3.mono hsz)
      have hcs3 : All2 (CFm w3 w.heap.size) cs (L.take i) := Hcs.out.mono fun _ _ h => h.keep (Bytes8.of_below hbw3)
      have hgs3' : w.heap.size ≤ g3 := by have := Hbw2.out.size; omega
      have Hrow3 := Lib.hid hrow3
      have Hnrow3 := Lib.hid hnrow3
      have Hb03 := Lib.hid hb03
      have Hcs3 := Lib.hid hcs3
      have Hg3 := Lib.hid (And.intro hg3 hgs3')
      clear hg3 hgs3 hb3 hbw3 hrow3 hnrow3 hb03 hcs3 hgs3' Hcs Hrow Hnrow Hbl Hbw2 Hbs m1 hsz
      go_wp2_with (first | (at_builtin; refine wpList_append_own_at _ rfl _ _ 47 rfl w.heap.size 56 iF (.agg #[.string ⟨#[]⟩, .slice none 0 0]) 2 40 Tryd.underlying47 hiF hzF hsF hbF rfl (by omega) (.slice Ao i co) i cs.flatten rfl (World.ownsRow.alloc Hrow3.out _) ⟨w3.heap.size, 0, none⟩ 1 1 [.string s, .slice (some ⟨g3, 0, none⟩) d.length d.length] rfl rfl (fun j v hv => World.news_of_block (heap_alloc_new _ _) j v hv) one_file (by unfold maxLen; omega) (by omega) (by have := Hb03.out.size; simp; omega) ?_))
      intro v7 w7 h7 hg7 _ hat7
      have hg8 : w3.grownBy w7 (Value.slice Ao i co).ownBlock := (World.grownBy_alloc w3 _ _).andThen hg7 (fun j hj => .inr hj)
      obtain ⟨A7, c7, hv7⟩ := own_formT h7
      have Hfin : Hid (FilesRel w D (.slice (some ⟨g, 0, none⟩) D.length cn) L v7 (.int .i64 ((i : Int) + 1)) w7) := Lib.hid ⟨i + 1, cs ++ [[.string s, .slice (some ⟨g3, 0, none⟩) d.length d.length]], by omega, rfl, by
        rw [Htk.out]
        exact (Hcs3.out.mono fun _ _ h => h.keep (Bytes8.of_grown hg8 Hrow3.out)).append ((show CFm w3 w.heap.size [.string s, .slice (some ⟨g3, 0, none⟩) d.length d.length] (s, d) from ⟨g3, rfl, Hg3.out.2, Nat.le_trans hlk hK, Hg3.out.1⟩).keep (Bytes8.of_grown hg8 Hrow3.out)), by
        rw [List.flatten_append, List.flatten_singleton]
        exact h7, Hb03.out.grown hg8 Hb03.out.size fun k hk => (own_blk Hrow3.out k hk).1, row_kept Hnrow3.out (Fr.of_grown hg8) fun b hb hh => by
          have h9 := own_blk Hnrow3.out b hb
          simp at hh
          have h10 := own_blk Hrow3.out b hh
          obtain ⟨_, c9, h9⟩ := h9
          obtain ⟨_, c10, h10⟩ := h10
          rw [h9] at h10
          simp at h10⟩
      rw [hv7] at Hfin ⊢
      clear h7 hg7 hg8 hat7 hv7
      go_wp2_with fail
      go_roundw
      case rel => exact Hfin.out
      case measure => simp [intOf]; omega
    · have hlI : ¬ (i : Int) < D.length := by omega
      obtain rfl : i = D.length := by omega
      have Hfin : Hid (P (.returned (.slice Ao D.length co)) wr) := Lib.hid (by
        rw [HP.out]
        refine ⟨_, rfl, ⟨cs, ?_, ?_⟩, Hbl.out⟩
        · have h9 := Hcs.out
          rw [List.take_of_length_le (by omega)] at h9
          exact h9
        · rw [HLl.out]
          exact Hrow.out)
      clear Hcs Hrow Hbl Hnrow
      go_wp2_with fail
      exact Hfin.out
end Go.Proofs.YtaolddgnannojaaDoor
