/-
  List.
-/
import Derived.Test.YtaolddgnannojaaDoorFsPc
import Derived.Test.YtaolddgnannojaaDoorFsSort
import Derived.Test.YtaolddgnannojaaDoorShelf
namespace Go.Proofs.YtaolddgnannojaaDoor
open Go.RowKit Go.Maps Go.Sort

attribute [local go_sem] lt1 lt2 lt3 lt4 lt5 lt6

/-- texts in memory of their own -/
def TextsPost (w : World) (D : List ByteArray) (e : Ending) (w' : World) : Prop := ∃ v, e = .returned v ∧ w'.ownsRow w.heap.size 9 1 v D.length (txs D) ∧ Below w.heap.size w w'
theorem enc_txs (l : List (List UInt8)) : l.map Go.Proofs.encStr = txs (l.map mkS) := by
  unfold txs
  rw [List.map_map]
  rfl
def ListRel (w : World) (M : FsMem) (S : FsSt) (dir : ByteArray) (r : Nat) (ov : Value) (wr : World) : Prop :=
  ∃ left cnt ss, wr.ranges Tryd.prog 9 (plainElem Tryd.prog 3) M.nm r (Maps.size S.names) S.names left cnt ∧ Collected S.names left ss ∧ ss.length + cnt ≤ Maps.size S.names ∧
    wr.ownsRow w.heap.size 9 1 ov (ss.filter (below dir)).length ((ss.filter (below dir)).map Go.Proofs.encStr) ∧ Below w.heap.size w wr ∧ (∀ g, ov.ownBlock = some g → g ≠ r)
theorem infoStr : (Tryd.prog.info? 9).map (fun i => (i.zero, i.size, i.bytes)) = some (some (.string ⟨#[]⟩), 1, 16) := by kernel_rfl
theorem enc_one (x : List UInt8) : ∀ u ∈ [Value.string ⟨x.toArray⟩], u.oneCell' = true := by
  intro u hu
  simp only [List.mem_singleton] at hu
  subst hu
  rfl
theorem encInv : ∀ key kl, keyOf Tryd.prog 9 key = some kl → ∃ x : List UInt8, key = Value.string ⟨x.toArray⟩ := fun _ _ h => by
  obtain ⟨x, hx, _⟩ := Maps.keyOf_str Tryd.underlying9 h
  exact ⟨x, hx⟩
theorem below_yes {dir : ByteArray} (h : dir.size = 0) (x : List UInt8) : below dir x = true := by
  unfold below
  rw [h]
  rfl
theorem below_no {dir : ByteArray} (h : dir.size ≠ 0) (x : List UInt8) : below dir x = Lib.hasPrefix x (dir ++ ⟨#[47]⟩ : ByteArray).data.toList := by
  unfold below
  have : (dir.size == 0) = false := by simpa using h
  rw [this, Bool.false_or]
set_option maxHeartbeats 8000000 in
set_option maxRecDepth 10000 in
theorem list_any (w : World) (M : FsMem) (S : FsSt) (K : Nat) (h : FsAt w M S) (hi : FsInv K S) (hK : K ≤ 1048576) (dir : ByteArray) (hdir : dir.size ≤ 1048576) :
    Calls Tryd.prog 14 #[.pointer (some ⟨M.fb, 0, none⟩), .string dir] w (TextsPost w (S.listed dir)) := by
  obtain ⟨P, hP⟩ : ∃ P, P = TextsPost w (S.listed dir) := ⟨_, rfl⟩
  rw [← hP]
  have HP := Lib.hid hP
  have H := Lib.hid h
  obtain ⟨iS, hiS, hzS, hsS, hbS⟩ := info_parts infoStr
  have c3 : w.cell? ⟨M.fb, 3, none⟩ = some (.map (some M.nm)) := (h.cell 3 _ rfl).1
  have HN := Lib.hid h.names
  have hszN := hi.names.size
  have hnm := h.lt M.nm (by simp [FsMem.own])
  clear hP h
  go_enter Tryd.func14, Tryd.ntmps14
  go_wp2_with (first
    | (at_range; refine wpList_range_own _ rfl _ 60 rfl 9 3 strK Tryd.underlying60 (plainElem Tryd.prog 3) M.nm (Maps.size S.names) S.names rfl HN.out ?_; intro w5 hrg5 hg5 hs5)
    | go_in)
  go_frame
  have hb5 : Below w.heap.size w w5 := (Below.refl _ _).grown hg5 (Nat.le_refl _) (by simp)
  have Hrel0 : Hid (ListRel w M S dir w.heap.size (.slice none 0 0) w5) := Lib.hid ⟨_, _, [], hrg5, Collected.start _, by simp, World.ownsRow_nil _ _ _ _, hb5, by simp [Value.ownBlock]⟩
  clear hrg5 hg5 hs5 hb5 c3
  obtain ⟨r, hr⟩ : ∃ r, r = w.heap.size := ⟨_, rfl⟩
  rw [← hr] at Hrel0 ⊢
  have Hr := Lib.hid hr
  clear hr
  go_loopw [5, 6] (fun ov _ wr => ListRel w M S dir r ov wr) (fun _ _ wr => wr.rangeLeft M.nm r)
  case atStart => exact Hrel0.out
  case round =>
    obtain ⟨left, cnt, ss, hrg, hC, hsc, hrow, hbl, hne⟩ := hrel
    obtain ⟨Ao, co, hov⟩ := own_formT hrow
    subst hov
    have HL := Lib.hid hrg.left_eq
    have HC := Lib.hid hC
    have Hrow := Lib.hid hrow
    have Hbl := Lib.hid hbl
    have Hne := Lib.hid hne
    clear hC hrow hbl hne Hrel0
    go_wp2_with (first
      | (at_next; refine wpList_next_ranges _ rfl _ rfl 9 strK (plainElem Tryd.prog 3) (fun x : List UInt8 => Value.string ⟨x.toArray⟩) (Value.int .i64) encInv intInv M.nm r (Maps.size S.names) _ _ _ rfl hrg ?_ ?_)
      | go_in)
    · intro hc0 hl0
      have hperm := HC.out.perm HN.out strK Tryd.underlying9 hl0
      have Hpm := Lib.hid (mergeSort_of_perm (hperm.filter (below dir)))
      have hsort := sort_texts wr w.heap.size _ _ Hrow.out (by
        have := List.length_filter_le (below dir) ss
        omega)
      have Hs := Lib.hid hsort
      clear hsort hperm hrg
      go_wp2_with fail
      refine Hs.out.mono ?_
      rintro e w7 ⟨rfl, hrow7, hg7⟩
      have Hfin : Hid (P (.returned (.slice Ao (ss.filter (below dir)).length co)) w7) := Lib.hid (by
        rw [HP.out]
        have e1 : (S.listed dir).length = (ss.filter (below dir)).length := by
          unfold FsSt.listed
          rw [← Hpm.out]
          simp
        have e2 : txs (S.listed dir) = ((ss.filter (below dir)).mergeSort leB).map Go.Proofs.encStr := by
          unfold FsSt.listed
          rw [← Hpm.out, ← enc_txs]
        refine ⟨_, rfl, ?_, Hbl.out.grown hg7 Hbl.out.size fun k hk => (own_blk Hrow.out k hk).1⟩
        rw [e1, e2]
        exact hrow7)
      clear hrow7 hg7
      go_wp2_with fail
      exact Hfin.out
    · intro x c kl y yp w6 cnt6 hkey hlk hv hat hrg6 hlt hg6 hs6 hen
      obtain ⟨x', ex, rfl, hxl⟩ := Maps.keyOf_str Tryd.underlying9 hkey
      obtain rfl := Go.encStr_inj ex
      have hC6 := HC.out.step hlk hat
      have hfr6 : Fr [r] wr w6 := Fr.of_grown hg6
      have hrow6 := row_kept Hrow.out hfr6 fun b hb hh => Hne.out b hb (List.mem_singleton.1 hh)
      have hbl6 : Below w.heap.size w w6 := Hbl.out.grown hg6 Hbl.out.size (by intro j hj; cases hj; exact Nat.le_of_eq Hr.out.symm)
      have HC6 := Lib.hid hC6
      have Hrow6 := Lib.hid hrow6
      have Hbl6 := Lib.hid hbl6
      have Hrg6 := Lib.hid hrg6
      have hp := (Tryd.strings_HasPrefix ⟨x.toArray⟩ (dir ++ ⟨#[47]⟩) w6).mono (fun e w' h => (show e = .returned (.bool (Lib.hasPrefix x (dir ++ ⟨#[47]⟩ : ByteArray).data.toList)) ∧ w6 = w' from ⟨h.1, h.2.symm⟩))
      have Hp := Lib.hid hp
      have hfl : (ss.filter (below dir)).length ≤ Maps.size S.names := by
        have := List.length_filter_le (below dir) ss
        omega
      have Hlk := Lib.hid hlk
      clear hC6 hrow6 hbl6 hrg6 hrg hkey hv hat hg6 hs6 hp HC Hrow Hbl hxl ex
      -- the end of a round
      have Hms : ∀ w7 : World, ∀ q, w7.ranges Tryd.prog 9 (plainElem Tryd.prog 3) M.nm r (Maps.size S.names) S.names q cnt6 → w7.rangeLeft M.nm r < wr.rangeLeft M.nm r := fun w7 q h7 => by rw [h7.left_eq, HL.out]; exact hlt
      have HMs := Lib.hid Hms
      have app : ∀ (v' : Value) (w7 : World), w7.ownsRow w.heap.size 9 1 v' ((ss.filter (below dir)).length + 1) ((ss.filter (below dir)).map Go.Proofs.encStr ++ [.string ⟨x.toArray⟩]) → (w6.alloc (.cells #[.string ⟨x.toArray⟩] 9)).grownBy w7 (Value.slice Ao (ss.filter (below dir)).length co).ownBlock →
          (v'.ownBlock = (Value.slice Ao (ss.filter (below dir)).length co).ownBlock ∨ v'.ownBlock = some (w6.heap.size + 1)) → below dir x = true → Hid (ListRel w M S dir r v' w7 ∧ w7.rangeLeft M.nm r < wr.rangeLeft M.nm r) := fun v' w7 h7 hg7 hat7 hb => by
        have hg8 : w6.grownBy w7 (Value.slice Ao (ss.filter (below dir)).length co).ownBlock := (World.grownBy_alloc w6 _ _).andThen hg7 (fun j hj => .inr hj)
        have hrg7 := Hrg6.out.kept hg8 (fun e => by
          have := (own_blk Hrow6.out M.nm e.symm).1
          omega) (fun e => Hne.out r e.symm rfl)
        have hr6 := Hrg6.out.lt
        refine Lib.hid ⟨⟨_, _, _, hrg7, HC6.out, by simp; omega, ?_, Hbl6.out.grown hg8 Hbl6.out.size fun k hk => (own_blk Hrow6.out k hk).1, fun g hg e => ?_⟩, HMs.out _ _ hrg7⟩
        · have e1 : (ss ++ [x]).filter (below dir) = ss.filter (below dir) ++ [x] := by simp [hb]
          rw [e1, List.length_append, List.map_append]
          exact h7
        · rcases hat7 with e7 | e7
          · rw [e7] at hg; exact Hne.out g hg e
          · rw [e7] at hg
            simp at hg
            omega
      have skip : below dir x = false → Hid (ListRel w M S dir r (.slice Ao (ss.filter (below dir)).length co) w6 ∧ w6.rangeLeft M.nm r < wr.rangeLeft M.nm r) := fun hb => by
        refine Lib.hid ⟨⟨_, _, _, Hrg6.out, HC6.out, by simp; omega, ?_, Hbl6.out, Hne.out⟩, HMs.out _ _ Hrg6.out⟩
        have e1 : (ss ++ [x]).filter (below dir) = ss.filter (below dir) := by simp [hb]
        rw [e1]
        exact Hrow6.out
      have App := Lib.hid app
      have Skip := Lib.hid skip
      clear app skip Hms
      by_cases hz : dir.size = 0
      · have hb := below_yes hz x
        have hd0 : dir = ⟨#[]⟩ := by
          cases dir with
          | mk d => exact congrArg _ (Array.eq_empty_of_size_eq_zero hz)
        have hq : (dir.toList == []) = true := by rw [hd0, toList_toL]; rfl
        have Hb := Lib.hid hb
        clear hb hd0 hz
        go_wp2_with (first | (at_builtin; refine wpList_append_own_at _ rfl _ _ 29 rfl w.heap.size 9 iS (.string ⟨#[]⟩) 1 16 Tryd.underlying29 hiS hzS hsS hbS rfl (by omega) (.slice Ao (ss.filter (below dir)).length co) (ss.filter (below dir)).length ((ss.filter (below dir)).map Go.Proofs.encStr) rfl (World.ownsRow.alloc Hrow6.out _) ⟨w6.heap.size, 0, none⟩ 1 1 [.string ⟨x.toArray⟩] rfl rfl (fun j v hv => World.news_of_block (heap_alloc_new _ _) j v hv) (enc_one x) (by unfold maxLen; omega) (by omega) (by have := Hbl6.out.size; simp; omega) ?_))
        intro v7 w7 h7 hg7 _ hat7
        obtain ⟨A7, c7, hv7⟩ := own_formT h7
        have Hfin := App.out v7 w7 h7 hg7 hat7 Hb.out
        rw [hv7] at Hfin ⊢
        clear h7 hg7 hat7 hv7 App Skip
        go_wp2_with fail
        go_roundw
        case rel => exact Hfin.out.1
        case measure => exact Hfin.out.2
      · have hb := below_no hz x
        have hq : (dir.toList == []) = false := by
          rw [beq_eq_false_iff_ne, toList_toL]
          intro e
          have := congrArg List.length e
          rw [toL_len] at this
          exact hz this
        have hds : (dir ++ ⟨#[47]⟩ : ByteArray).size ≤ 9223372036854775807 := by
          rw [ByteArray.size_append]
          show dir.size + 1 ≤ _
          omega
        have Hb := Lib.hid hb
        clear hb hz
        go_wp2_with fail
        refine Hp.out.mono ?_
        rintro e w8 ⟨rfl, rfl⟩
        rw [← Hb.out]
        by_cases hbb : below dir x = true
        · rw [hbb]
          have Hb := Lib.hid hbb
          clear hbb
          go_wp2_with (first | (at_builtin; refine wpList_append_own_at _ rfl _ _ 29 rfl w.heap.size 9 iS (.string ⟨#[]⟩) 1 16 Tryd.underlying29 hiS hzS hsS hbS rfl (by omega) (.slice Ao (ss.filter (below dir)).length co) (ss.filter (below dir)).length ((ss.filter (below dir)).map Go.Proofs.encStr) rfl (World.ownsRow.alloc Hrow6.out _) ⟨w6.heap.size, 0, none⟩ 1 1 [.string ⟨x.toArray⟩] rfl rfl (fun j v hv => World.news_of_block (heap_alloc_new _ _) j v hv) (enc_one x) (by unfold maxLen; omega) (by omega) (by have := Hbl6.out.size; simp; omega) ?_))
          intro v7 w7 h7 hg7 _ hat7
          obtain ⟨A7, c7, hv7⟩ := own_formT h7
          have Hfin := App.out v7 w7 h7 hg7 hat7 Hb.out
          rw [hv7] at Hfin ⊢
          clear h7 hg7 hat7 hv7 App Skip
          go_wp2_with fail
          go_roundw
          case rel => exact Hfin.out.1
          case measure => exact Hfin.out.2
        · have hbb : below dir x = false := by simpa using hbb
          rw [hbb]
          have Hfin := Skip.out hbb
          clear hbb App Skip
          go_wp2_with fail
          go_roundw
          case rel => exact Hfin.out.1
          case measure => exact Hfin.out.2
end Go.Proofs.YtaolddgnannojaaDoor
