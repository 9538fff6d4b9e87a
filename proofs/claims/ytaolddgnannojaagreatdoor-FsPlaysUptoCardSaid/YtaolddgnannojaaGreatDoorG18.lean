/-
  List.
  Files.
-/
import Derived.Test.YtaolddgnannojaaGreatDoorG16
import Derived.Test.YtaolddgnannojaaGreatDoorG17
import Derived.Test.YtaolddgnannojaaGreatDoorShelf
namespace Go.Proofs.YtaolddgnannojaaGreatDoor
open Go.RowKit Go.Maps Go.Sort

attribute [local go_sem] lt1 lt2 lt3 lt4 lt5 lt6

/-- texts in memory of their own -/
def TextsPost (w : World) (D : List ByteArray) (e : Ending) (w' : World) : Prop := ∃ v, e = .returned v ∧ w'.ownsRow w.heap.size 9 1 v D.length (txs D) ∧ Below w.heap.size w w'
theorem enc_txs (l : List (List UInt8)) : l.map Go.Proofs.encStr = txs (l.map mkS) := by
  unfold txs
  rw [List.map_map]
  rfl
def ListRel (w : World) (M : FsMem) (S : FsSt) (dir : ByteArray) (r : Nat) (ov : Value) (wr : World) : Prop :=
  ∃ left cnt ss, wr.ranges Tryz.prog 9 (plainElem Tryz.prog 3) M.nm r (Maps.size S.names) S.names left cnt ∧ Collected S.names left ss ∧ ss.length + cnt ≤ Maps.size S.names ∧
    wr.ownsRow w.heap.size 9 1 ov (ss.filter (below dir)).length ((ss.filter (below dir)).map Go.Proofs.encStr) ∧ Below w.heap.size w wr ∧ (∀ g, ov.ownBlock = some g → g ≠ r)
theorem infoStr : (Tryz.prog.info? 9).map (fun i => (i.zero, i.size, i.bytes)) = some (some (.string ⟨#[]⟩), 1, 16) := by kernel_rfl
theorem enc_one (x : List UInt8) : ∀ u ∈ [Value.string ⟨x.toArray⟩], u.oneCell' = true := by
  intro u hu
  simp only [List.mem_singleton] at hu
  subst hu
  rfl
theorem encInv : ∀ key kl, keyOf Tryz.prog 9 key = some kl → ∃ x : List UInt8, key = Value.string ⟨x.toArray⟩ := fun _ _ h => by
  obtain ⟨x, hx, _⟩ := Maps.keyOf_str Tryz.underlying9 h
  exact ⟨x, hx⟩
theorem below_yes {dir : ByteArray} (h : dir.size = 0) (x : List UInt8) : below dir x = true := by
  unfold below
  rw [h]
  rfl
theorem below_no {dir : ByteArray} (h : dir.size ≠ 0) (x : List UInt8) : below dir x = Lib.hasPrefix x (dir ++ ⟨#[47]⟩ : ByteArray).data.toList := by
  unfold below
  have : (dir.size == 0) = false := by simpa using h
  rw [this, Bool.false_or]
set_option maxHeartbeats 8000000 in
set_option maxRecDepth 10000 in
theorem list_any (w : World) (M : FsMem) (S : FsSt) (K : Nat) (h : FsAt w M S) (hi : FsInv K S) (hK : K ≤ 1048576) (dir : ByteArray) (hdir : dir.size ≤ 1048576) :
    Calls Tryz.prog 46 #[.pointer (some ⟨M.fb, 0, none⟩), .string dir] w (TextsPost w (S.listed dir)) := by
  obtain ⟨P, hP⟩ : ∃ P, P = TextsPost w (S.listed dir) := ⟨_, rfl⟩
  rw [← hP]
  have HP := Lib.hid hP
  have H := Lib.hid h
  obtain ⟨iS, hiS, hzS, hsS, hbS⟩ := info_parts infoStr
  have c3 : w.cell? ⟨M.fb, 3, none⟩ = some (.map (some M.nm)) := (h.cell 3 _ rfl).1
  have HN := Lib.hid h.names
  have hszN := hi.names.size
  have hnm := h.lt M.nm (by simp [FsMem.own])
  clear hP h
  go_enter Tryz.func46, Tryz.ntmps46
  go_wp2_with (first
    | (at_range; refine wpList_range_own _ rfl _ 46 rfl 9 3 strK Tryz.underlying46 (plainElem Tryz.prog 3) M.nm (Maps.size S.names) S.names rfl HN.out ?_; intro w5 hrg5 hg5 hs5)
    | go_in)
  go_frame
  have hb5 : Below w.heap.size w w5 := (Below.refl _ _).grown hg5 (Nat.le_refl _) (by simp)
  have Hrel0 : Hid (ListRel w M S dir w.heap.size (.slice none 0 0) w5) := Lib.hid ⟨_, _, [], hrg5, Collected.start _, by simp, World.ownsRow_nil _ _ _ _, hb5, by simp [Value.ownBlock]⟩
  clear hrg5 hg5 hs5 hb5 c3
  obtain ⟨r, hr⟩ : ∃ r, r = w.heap.size := ⟨_, rfl⟩
  rw [← hr] at Hrel0 ⊢
  have Hr := Lib.hid hr
  clear hr
  go_loopw [5, 6] (fun ov _ wr => ListRel w M S dir r ov wr) (fun _ _ wr => wr.rangeLeft M.nm r)
  case atStart => exact Hrel0.out
  case round =>
    obtain ⟨left, cnt, ss, hrg, hC, hsc, hrow, hbl, hne⟩ := hrel
    obtain ⟨Ao, co, hov⟩ := own_formT hrow
    subst hov
    have HL := Lib.hid hrg.left_eq
    have HC := Lib.hid hC
    have Hrow := Lib.hid hrow
    have Hbl := Lib.hid hbl
    have Hne := Lib.hid hne
    clear hC hrow hbl hne Hrel0
    go_wp2_with (first
      | (at_next; refine wpList_next_ranges _ rfl _ rfl 9 strK (plainElem Tryz.prog 3) (fun x : List UInt8 => Value.string ⟨x.toArray⟩) (Value.int .i64) encInv intInv M.nm r (Maps.size S.names) _ _ _ rfl hrg ?_ ?_)
      | go_in)
    · intro hc0 hl0
      have hperm := HC.out.perm HN.out strK Tryz.underlying9 hl0
      have Hpm := Lib.hid (mergeSort_of_perm (hperm.filter (below dir)))
      have hsort := sort_texts wr w.heap.size _ _ Hrow.out (by
        have := List.length_filter_le (below dir) ss
        omega)
      have Hs := Lib.hid hsort
      clear hsort hperm hrg
      go_wp2_with fail
      refine Hs.out.mono ?_
      rintro e w7 ⟨rfl, hrow7, hg7⟩
      have Hfin : Hid (P (.returned (.slice Ao (ss.filter (below dir)).length co)) w7) := Lib.hid (by
        rw [HP.out]
        have e1 : (S.listed dir).length = (ss.filter (below dir)).length := by
          unfold FsSt.listed
          rw [← Hpm.out]
          simp
        have e2 : txs (S.listed dir) = ((ss.filter (below dir)).mergeSort leB).map Go.Proofs.encStr := by
          unfold FsSt.listed
          rw [← Hpm.out, ← enc_txs]
        refine ⟨_, rfl, ?_, Hbl.out.grown hg7 Hbl.out.size fun k hk => (own_blk Hrow.out k hk).1⟩
        rw [e1, e2]
        exact hrow7)
      clear hrow7 hg7
      go_wp2_with fail
      exact Hfin.out
    · intro x c kl y yp w6 cnt6 hkey hlk hv hat hrg6 hlt hg6 hs6 hen
      obtain ⟨x', ex, rfl, hxl⟩ := Maps.keyOf_str Tryz.underlying9 hkey
      obtain rfl := Go.encStr_inj ex
      have hC6 := HC.out.step hlk hat
      have hfr6 : Fr [r] wr w6 := Fr.of_grown hg6
      have hrow6 := row_kept Hrow.out hfr6 fun b hb hh => Hne.out b hb (List.mem_singleton.1 hh)
      have hbl6 : Below w.heap.size w w6 := Hbl.out.grown hg6 Hbl.out.size (by intro j hj; cases hj; exact Nat.le_of_eq Hr.out.symm)
      have HC6 := Lib.hid hC6
      have Hrow6 := Lib.hid hrow6
      have Hbl6 := Lib.hid hbl6
      have Hrg6 := Lib.hid hrg6
      have hp := (Tryz.strings_HasPrefix ⟨x.toArray⟩ (dir ++ ⟨#[47]⟩) w6).mono (fun e w' h => (show e = .returned (.bool (Lib.hasPrefix x (dir ++ ⟨#[47]⟩ : ByteArray).data.toList)) ∧ w6 = w' from ⟨h.1, h.2.symm⟩))
      have Hp := Lib.hid hp
      have hfl : (ss.filter (below dir)).length ≤ Maps.size S.names := by
        have := List.length_filter_le (below dir) ss
        omega
      have Hlk := Lib.hid hlk
      clear hC6 hrow6 hbl6 hrg6 hrg hkey hv hat hg6 hs6 hp HC Hrow Hbl hxl ex
      -- the end of a round
      have Hms : ∀ w7 : World, ∀ q, w7.ranges Tryz.prog 9 (plainElem Tryz.prog 3) M.nm r (Maps.size S.names) S.names q cnt6 → w7.rangeLeft M.nm r < wr.rangeLeft M.nm r := fun w7 q h7 => by rw [h7.left_eq, HL.out]; exact hlt
      have HMs := Lib.hid Hms
      have app : ∀ (v' : Value) (w7 : World), w7.ownsRow w.heap.size 9 1 v' ((ss.filter (below dir)).length + 1) ((ss.filter (below dir)).map Go.Proofs.encStr ++ [.string ⟨x.toArray⟩]) → (w6.alloc (.cells #[.string ⟨x.toArray⟩] 9)).grownBy w7 (Value.slice Ao (ss.filter (below dir)).length co).ownBlock →
          (v'.ownBlock = (Value.slice Ao (ss.filter (below dir)).length co).ownBlock ∨ v'.ownBlock = some (w6.heap.size + 1)) → below dir x = true → Hid (ListRel w M S dir r v' w7 ∧ w7.rangeLeft M.nm r < wr.rangeLeft M.nm r) := fun v' w7 h7 hg7 hat7 hb => by
        have hg8 : w6.grownBy w7 (Value.slice Ao (ss.filter (below dir)).length co).ownBlock := (World.grownBy_alloc w6 _ _).andThen hg7 (fun j hj => .inr hj)
        have hrg7 := Hrg6.out.kept hg8 (fun e => by
          have := (own_blk Hrow6.out M.nm e.symm).1
          omega) (fun e => Hne.out r e.symm rfl)
        have hr6 := Hrg6.out.lt
        refine Lib.hid ⟨⟨_, _, _, hrg7, HC6.out, by simp; omega, ?_, Hbl6.out.grown hg8 Hbl6.out.size fun k hk => (own_blk Hrow6.out k hk).1, fun g hg e => ?_⟩, HMs.out _ _ hrg7⟩
        · have e1 : (ss ++ [x]).filter (below dir) = ss.filter (below dir) ++ [x] := by simp [hb]
          rw [e1, List.length_append, List.map_append]
          exact h7
        · rcases hat7 with e7 | e7
          · rw [e7] at hg; exact Hne.out g hg e
          · rw [e7] at hg
            simp at hg
            omega
      have skip : below dir x = false → Hid (ListRel w M S dir r (.slice Ao (ss.filter (below dir)).length co) w6 ∧ w6.rangeLeft M.nm r < wr.rangeLeft M.nm r) := fun hb => by
        refine Lib.hid ⟨⟨_, _, _, Hrg6.out, HC6.out, by simp; omega, ?_, Hbl6.out, Hne.out⟩, HMs.out _ _ Hrg6.out⟩
        have e1 : (ss ++ [x]).filter (below dir) = ss.filter (below dir) := by simp [hb]
        rw [e1]
        exact Hrow6.out
      have App := Lib.hid app
      have Skip := Lib.hid skip
      clear app skip Hms
      by_cases hz : dir.size = 0
      · have hb := below_yes hz x
        have hd0 : dir = ⟨#[]⟩ := by
          cases dir with
          | mk d => exact congrArg _ (Array.eq_empty_of_size_eq_zero hz)
        have hq : (dir.toList == []) = true := by rw [hd0, toList_toL]; rfl
        have Hb := Lib.hid hb
        clear hb hd0 hz
        go_wp2_with (first | (at_builtin; refine wpList_append_own_at _ rfl _ _ 81 rfl w.heap.size 9 iS (.string ⟨#[]⟩) 1 16 Tryz.underlying81 hiS hzS hsS hbS rfl (by omega) (.slice Ao (ss.filter (below dir)).length co) (ss.filter (below dir)).length ((ss.filter (below dir)).map Go.Proofs.encStr) rfl (World.ownsRow.alloc Hrow6.out _) ⟨w6.heap.size, 0, none⟩ 1 1 [.string ⟨x.toArray⟩] rfl rfl (fun j v hv => World.news_of_block (heap_alloc_new _ _) j v hv) (enc_one x) (by unfold maxLen; omega) (by omega) (by have := Hbl6.out.size; simp; omega) ?_))
        intro v7 w7 h7 hg7 _ hat7
        obtain ⟨A7, c7, hv7⟩ := own_formT h7
        have Hfin := App.out v7 w7 h7 hg7 hat7 Hb.out
        rw [hv7] at Hfin ⊢
        clear h7 hg7 hat7 hv7 App Skip
        go_wp2_with fail
        go_roundw
        case rel => exact Hfin.out.1
        case measure => exact Hfin.out.2
      · have hb := below_no hz x
        have hq : (dir.toList == []) = false := by
          rw [beq_eq_false_iff_ne, toList_toL]
          intro e
          have := congrArg List.length e
          rw [toL_len] at this
          exact hz this
        have hds : (dir ++ ⟨#[47]⟩ : ByteArray).size ≤ 9223372036854775807 := by
          rw [ByteArray.size_append]
          show dir.size + 1 ≤ _
          omega
        have Hb := Lib.hid hb
        clear hb hz
        go_wp2_with fail
        refine Hp.out.mono ?_
        rintro e w8 ⟨rfl, rfl⟩
        rw [← Hb.out]
        by_cases hbb : below dir x = true
        · rw [hbb]
          have Hb := Lib.hid hbb
          clear hbb
          go_wp2_with (first | (at_builtin; refine wpList_append_own_at _ rfl _ _ 81 rfl w.heap.size 9 iS (.string ⟨#[]⟩) 1 16 Tryz.underlying81 hiS hzS hsS hbS rfl (by omega) (.slice Ao (ss.filter (below dir)).length co) (ss.filter (below dir)).length ((ss.filter (below dir)).map Go.Proofs.encStr) rfl (World.ownsRow.alloc Hrow6.out _) ⟨w6.heap.size, 0, none⟩ 1 1 [.string ⟨x.toArray⟩] rfl rfl (fun j v hv => World.news_of_block (heap_alloc_new _ _) j v hv) (enc_one x) (by unfold maxLen; omega) (by omega) (by have := Hbl6.out.size; simp; omega) ?_))
          intro v7 w7 h7 hg7 _ hat7
          obtain ⟨A7, c7, hv7⟩ := own_formT h7
          have Hfin := App.out v7 w7 h7 hg7 hat7 Hb.out
          rw [hv7] at Hfin ⊢
          clear h7 hg7 hat7 hv7 App Skip
          go_wp2_with fail
          go_roundw
          case rel => exact Hfin.out.1
          case measure => exact Hfin.out.2
        · have hbb : below dir x = false := by simpa using hbb
          rw [hbb]
          have Hfin := Skip.out hbb
          clear hbb App Skip
          go_wp2_with fail
          go_roundw
          case rel => exact Hfin.out.1
          case measure => exact Hfin.out.2
end Go.Proofs.YtaolddgnannojaaGreatDoor
namespace Go.Proofs.YtaolddgnannojaaGreatDoor
open Go.RowKit Go.Maps

attribute [local go_sem] lt1 lt2 lt3 lt4 lt5 lt6

def FilesPost (w : World) (L : List Fl) (e : Ending) (w' : World) : Prop := ∃ v, e = .returned v ∧ FlM w' w.heap.size v L ∧ Below w.heap.size w w'
def FilesRel (w : World) (D : List ByteArray) (nv : Value) (L : List Fl) (ov iv : Value) (wr : World) : Prop :=
  ∃ i cs, i ≤ L.length ∧ iv = .int .i64 (i : Nat) ∧ All2 (CFm wr w.heap.size) cs (L.take i) ∧ wr.ownsRow w.heap.size 44 2 ov i cs.flatten ∧ Below w.heap.size w wr ∧ wr.ownsRow w.heap.size 9 1 nv D.length (txs D)
theorem one_file {s : ByteArray} {A : Option Addr} {n c : Nat} : ∀ v ∈ [Value.string s, .slice A n c], v.oneCell' = true := by
  intro v hv
  simp only [List.mem_cons, List.not_mem_nil, or_false] at hv
  rcases hv with rfl | rfl <;> rfl
theorem txs_at {D : List ByteArray} {k : Nat} (h : k < D.length) : (txs D)[k]? = some (.string (D.getD k ⟨#[]⟩)) := by
  unfold txs
  rw [List.getElem?_map, List.getD_eq_getElem?_getD, List.getElem?_eq_getElem h]
  rfl
theorem row_below {w w' : World} {base : Nat} {e : TypeId} {k : Nat} {v : Value} {n : Nat} {xs : List Value} (h : w.ownsRow base e k v n xs) (hb : Below w.heap.size w w') : w'.ownsRow base e k v n xs :=
  own_keep h fun g _ hg => (hb.block g (lt_of_heap hg)).trans hg
theorem filesL_at (S : FsSt) {k : Nat} (hk : k < (keysOf S.names).length) : S.filesL.getD k noFl = ((keysOf S.names).getD k ⟨#[]⟩, dataNo S.files (nget S.names ((keysOf S.names).getD k ⟨#[]⟩))) := by
  unfold FsSt.filesL
  rw [List.getD_eq_getElem?_getD, List.getElem?_map, List.getElem?_eq_getElem hk, List.getD_eq_getElem?_getD, List.getElem?_eq_getElem hk]
  rfl
theorem filesL_len (S : FsSt) : S.filesL.length = (keysOf S.names).length := by unfold FsSt.filesL; simp
theorem of_data {S : FsSt} {s : ByteArray} {i : Nat} (h : S.of s = some i) : (S.fileD i).2.d = dataNo S.files (nget S.names s) := by
  have := S.idx_num (nget S.names s)
  unfold FsSt.of at h
  rw [h] at this
  unfold dataNo
  rw [← this]
  rfl
set_option maxHeartbeats 8000000 in
set_option maxRecDepth 10000 in
theorem files_any (w : World) (M : FsMem) (S : FsSt) (K : Nat) (h : FsAt w M S) (hg : FsGood K S) (hK : K ≤ 1048576) :
    Calls Tryz.prog 51 #[.pointer (some ⟨M.fb, 0, none⟩)] w (FilesPost w S.filesL) := by
  obtain ⟨P, hP⟩ : ∃ P, P = FilesPost w S.filesL := ⟨_, rfl⟩
  rw [← hP]
  have HP := Lib.hid hP
  have H := Lib.hid h
  obtain ⟨iF, hiF, hzF, hsF, hbF⟩ := info_parts infoFile
  have HG := Lib.hid hg
  clear hP h hg
  go_enter Tryz.func51, Tryz.ntmps51
  go_wp2_with fail
  refine (list_any w M S K H.out HG.out.inv hK ⟨#[]⟩ (by decide)).mono ?_
  rintro e w1 ⟨v, rfl, hrow, hb⟩
  rw [listed_all] at hrow
  obtain ⟨An, cn, hv⟩ := own_formT hrow
  subst hv
  have hLl := filesL_len S
  have hDl : (keysOf S.names).length ≤ K := by rw [keysOf_len HG.out.dn]; exact HG.out.inv.names.size
  obtain ⟨L, hL⟩ : ∃ L, L = S.filesL := ⟨_, rfl⟩
  rw [← hL] at hLl HP
  have hat : ∀ k, k < (keysOf S.names).length → L.getD k noFl = ((keysOf S.names).getD k ⟨#[]⟩, dataNo S.files (nget S.names ((keysOf S.names).getD k ⟨#[]⟩))) := fun k hk => by rw [hL]; exact filesL_at S hk
  have hmem : ∀ k, k < (keysOf S.names).length → nget S.names ((keysOf S.names).getD k ⟨#[]⟩) ≠ 0 := fun k hk => (mem_keysOf HG.out.dn).1 (by rw [List.getD_eq_getElem?_getD, List.getElem?_eq_getElem hk]; exact List.getElem_mem hk)
  clear hL
  obtain ⟨D, hD⟩ : ∃ D, D = keysOf S.names := ⟨_, rfl⟩
  rw [← hD] at hLl hDl hat hmem hrow ⊢
  clear hD
  have Hat := Lib.hid hat
  have Hmem := Lib.hid hmem
  have HLl := Lib.hid hLl
  have Hrel0 : Hid (FilesRel w D (.slice An D.length cn) L (.slice none 0 0) (.int .i64 0) w1) := Lib.hid ⟨0, [], by omega, rfl, trivial, World.ownsRow_nil _ _ _ _, hb, hrow⟩
  clear hat hmem hLl hrow hb
  go_wp2_with fail
  go_loopw [3, 9] (fun ov iv wr => FilesRel w D (.slice An D.length cn) L ov iv wr) (fun _ iv _ => D.length - (intOf iv).toNat)
  case atStart => exact Hrel0.out
  case round =>
    clear Hrel0
    obtain ⟨i, cs, hi, rfl, hcs, hrow, hbl, hnrow⟩ := hrel
    obtain ⟨Ao, co, hov⟩ := own_formT hrow
    subst hov
    have hir : (0 : Int) ≤ i := by omega
    have hil := HLl.out
    have Hcs := Lib.hid hcs
    have Hrow := Lib.hid hrow
    have Hbl := Lib.hid hbl
    have Hnrow := Lib.hid hnrow
    clear hcs hrow hbl hnrow
    by_cases hlt : i < D.length
    · have hlI : (i : Int) < D.length := by omega
      obtain ⟨A2, c2, e2, hA0, hA1, _, _⟩ := own_form Hnrow.out
      simp only [Value.slice.injEq, true_and] at e2
      obtain ⟨rfl, rfl⟩ := e2
      obtain ⟨g, hA⟩ : ∃ g, An = some ⟨g, 0, none⟩ := by
        cases An with
        | none => have := (hA0 rfl).1; omega
        | some a => obtain ⟨g, rfl⟩ := hA1 a rfl; exact ⟨g, rfl⟩
      subst hA
      have cn1 := own_cell Hnrow.out (txs_at hlt)
      have hat := Hat.out i hlt
      have hnz := Hmem.out i hlt
      have htk := take_getD (show i < L.length by omega)
      rw [hat] at htk
      obtain ⟨s, hs⟩ : ∃ s, s = D.getD i ⟨#[]⟩ := ⟨_, rfl⟩
      rw [← hs] at cn1 hnz htk
      have hss := HG.out.dn.short hnz
      obtain ⟨j, hof⟩ := HG.out.inv.names.has s hnz
      change S.of s = some j at hof
      rw [← of_data hof] at htk
      have Htk := Lib.hid htk
      have H1 := Lib.hid (H.out.below Hbl.out)
      clear hat hs htk hA0 hA1
      go_wp2_with fail
      refine (of_any wr M S H1.out s (by unfold maxLen; omega) (HG.out.inv.name_le hK s)).mono ?_
      rintro e w2 ⟨rfl, nn, hw2⟩
      have H2 : Hid (FsAt w2 M S) := Lib.hid (by rw [hw2]; exact H1.out.drewN nn)
      have hbw2 : Below wr.heap.size wr w2 := by rw [hw2]; exact ⟨rfl, rfl, rfl, Nat.le_refl _, fun _ _ => rfl⟩
      have Hbw2 := Lib.hid hbw2
      clear hw2 hbw2
      rw [hof]
      obtain ⟨gf, hgf⟩ : ∃ gf, gf = (M.fl.getD j (0, undef)).1 := ⟨_, rfl⟩
      have hpt : M.ptr (some j) = .pointer (some ⟨gf, 0, none⟩) := by rw [hgf]; rfl
      rw [hpt]
      clear hpt
      have hil := S.idx_lt hof
      have hfile := H2.out.fileAt hil
      obtain ⟨Af, cf, hfv, hbs⟩ := data_bs hfile.2
      have hf0 := hfile.1
      rw [hfv, ← hgf] at hf0
      change w2.heap[gf]? = some (.cells #[.slice Af (S.fileD j).2.d.length cf, _] _ _) at hf0
      change Bs w2 Af cf (S.fileD j).2.d at hbs
      have hlk := HG.out.inv.lenAt j
      change (S.fileD j).2.d.length ≤ K at hlk
      have m1 : w2.cell? ⟨gf, 0, none⟩ = some (.slice Af (S.fileD j).2.d.length cf) := (blk_cells hf0).1 0
      have Hbs := Lib.hid hbs
      clear hfile hfv hf0 hgf hbs
      obtain ⟨d, hd⟩ : ∃ d, d = (S.fileD j).2.d := ⟨_, rfl⟩
      rw [← hd] at m1 Hbs hlk Htk
      clear hd hof hnz cn1
      go_wp2_with fail
      refine (fresh_any d Af cf w2 (by omega) Hbs.out).mono ?_
      rintro e w3 ⟨g3, rfl, hg3, hgs3, hb3⟩
      have hsz := Hbl.out.size
      have hbw3 : Below wr.heap.size wr w3 := Hbw2.out.trans (hb3.mono Hbw2.out.size)
      have hrow3 := row_below Hrow.out hbw3
      have hnrow3 := row_below Hnrow.out hbw3
      have hb03 := Hbl.out.trans (hbw3.mono hsz)
      have hcs3 : All2 (CFm w3 w.heap.size) cs (L.take i) := Hcs.out.mono fun _ _ h => h.keep (Bytes8.of_below hbw3)
      have hgs3' : w.heap.size ≤ g3 := by have := Hbw2.out.size; omega
      have Hrow3 := Lib.hid hrow3
      have Hnrow3 := Lib.hid hnrow3
      have Hb03 := Lib.hid hb03
      have Hcs3 := Lib.hid hcs3
      have Hg3 := Lib.hid (And.intro hg3 hgs3')
      clear hg3 hgs3 hb3 hbw3 hrow3 hnrow3 hb03 hcs3 hgs3' Hcs Hrow Hnrow Hbl Hbw2 Hbs m1 hsz
      go_wp2_with (first | (at_builtin; refine wpList_append_own_at _ rfl _ _ 40 rfl w.heap.size 44 iF (.agg #[.string ⟨#[]⟩, .slice none 0 0]) 2 40 Tryz.underlying40 hiF hzF hsF hbF rfl (by omega) (.slice Ao i co) i cs.flatten rfl (World.ownsRow.alloc Hrow3.out _) ⟨w3.heap.size, 0, none⟩ 1 1 [.string s, .slice (some ⟨g3, 0, none⟩) d.length d.length] rfl rfl (fun j v hv => World.news_of_block (heap_alloc_new _ _) j v hv) one_file (by unfold maxLen; omega) (by omega) (by have := Hb03.out.size; simp; omega) ?_))
      intro v7 w7 h7 hg7 _ hat7
      have hg8 : w3.grownBy w7 (Value.slice Ao i co).ownBlock := (World.grownBy_alloc w3 _ _).andThen hg7 (fun j hj => .inr hj)
      obtain ⟨A7, c7, hv7⟩ := own_formT h7
      have Hfin : Hid (FilesRel w D (.slice (some ⟨g, 0, none⟩) D.length cn) L v7 (.int .i64 ((i : Int) + 1)) w7) := Lib.hid ⟨i + 1, cs ++ [[.string s, .slice (some ⟨g3, 0, none⟩) d.length d.length]], by omega, rfl, by
        rw [Htk.out]
        exact (Hcs3.out.mono fun _ _ h => h.keep (Bytes8.of_grown hg8 Hrow3.out)).append ((show CFm w3 w.heap.size [.string s, .slice (some ⟨g3, 0, none⟩) d.length d.length] (s, d) from ⟨g3, rfl, Hg3.out.2, Nat.le_trans hlk hK, Hg3.out.1⟩).keep (Bytes8.of_grown hg8 Hrow3.out)), by
        rw [List.flatten_append, List.flatten_singleton]
        exact h7, Hb03.out.grown hg8 Hb03.out.size fun k hk => (own_blk Hrow3.out k hk).1, row_kept Hnrow3.out (Fr.of_grown hg8) fun b hb hh => by
          have h9 := own_blk Hnrow3.out b hb
          simp at hh
          have h10 := own_blk Hrow3.out b hh
          obtain ⟨_, c9, h9⟩ := h9
          obtain ⟨_, c10, h10⟩ := h10
          rw [h9] at h10
          simp at h10⟩
      rw [hv7] at Hfin ⊢
      clear h7 hg7 hg8 hat7 hv7
      go_wp2_with fail
      go_roundw
      case rel => exact Hfin.out
      case measure => simp [intOf]; omega
    · have hlI : ¬ (i : Int) < D.length := by omega
      obtain rfl : i = D.length := by omega
      have Hfin : Hid (P (.returned (.slice Ao D.length co)) wr) := Lib.hid (by
        rw [HP.out]
        refine ⟨_, rfl, ⟨cs, ?_, ?_⟩, Hbl.out⟩
        · have h9 := Hcs.out
          rw [List.take_of_length_le (by omega)] at h9
          exact h9
        · rw [HLl.out]
          exact Hrow.out)
      clear Hcs Hrow Hbl Hnrow
      go_wp2_with fail
      exact Hfin.out
end Go.Proofs.YtaolddgnannojaaGreatDoor
