/-
  SameTexts; what is lent.
  The reference: Begins.
  The reference: List.
  The reference: new durable names.
-/
import Derived.Test.YtaolddgnannojaaGreatDoorG31
import Derived.Lib.Strings
namespace Go.Proofs.YtaolddgnannojaaGreatDoor
open Go.RowKit Go.Maps

attribute [local go_sem] lt1 lt2 lt3 lt4 lt5 lt6

theorem str_at {w : World} {A : Option Addr} {c : Nat} {x : List ByteArray} (h : Sl w A c x.length 1 (x.map Value.string)) {i : Nat} (hi : i < x.length) : ∃ b o s, A = some ⟨b, o, none⟩ ∧ x[i]? = some s ∧ w.cell? ⟨b, o + i, none⟩ = some (.string s) := by
  obtain ⟨b, o, rfl, hx⟩ := h.cells (by omega)
  refine ⟨b, o, x[i], rfl, List.getElem?_eq_getElem hi, ?_⟩
  rw [hx i (by omega)]
  simp [hi]
theorem take_snoc {α : Type} {x : List α} {k : Nat} {s : α} (h : x[k]? = some s) : x.take (k + 1) = x.take k ++ [s] := by
  rw [List.take_add_one, h]; rfl
def TextRel (x y : List ByteArray) (w : World) (i : Value) (wr : World) : Prop := ∃ k : Nat, k ≤ x.length ∧ i = .int .i64 k ∧ x.take k = y.take k ∧ ∃ n, wr = w.drewN n

set_option maxHeartbeats 1000000 in
theorem texts_any (x y : List ByteArray) (A1 A2 : Option Addr) (c1 c2 : Nat) (w : World) (h1 : Sl w A1 c1 x.length 1 (x.map Value.string)) (h2 : Sl w A2 c2 y.length 1 (y.map Value.string)) :
    Calls Tryz.prog 45 #[.slice A1 x.length c1, .slice A2 y.length c2] w fun e w' => e = .returned (.bool (decide (x = y))) ∧ ∃ n, w' = w.drewN n := by
  have hx : x.length ≤ 9223372036854775807 := by have a := h1.le; have b := h1.big; unfold maxLen at b; omega
  have hy : y.length ≤ 9223372036854775807 := by have a := h2.le; have b := h2.big; unfold maxLen at b; omega
  have H1 := Lib.hid h1
  have H2 := Lib.hid h2
  clear h1 h2
  by_cases hl : x.length = y.length
  · have Hl := Lib.hid hl
    clear hl
    have hb : ((x.length : Int) != y.length) = false := by simp [Hl.out]
    go_enter Tryz.func45, Tryz.ntmps45
    go_wp2
    go_loopw [5] (fun i wr => TextRel x y w i wr) (fun i _ => x.length - (intOf i).toNat)
    case atStart => exact ⟨0, by omega, rfl, rfl, 0, rfl⟩
    case round =>
      obtain ⟨k, hk, rfl, hkk, n, rfl⟩ := hrel
      have Hkk := Lib.hid hkk
      clear hkk
      by_cases hlt : k < x.length
      · have hlt2 : k < y.length := by have := Hl.out; omega
        obtain ⟨b1, o1, p, rfl, hp, g1⟩ := str_at H1.out hlt
        obtain ⟨b2, o2, q, rfl, hq, g2⟩ := str_at H2.out hlt2
        have Hp := Lib.hid hp
        have Hq := Lib.hid hq
        clear hp hq
        have hseq := str_eq p q
        cases he : decide (p = q) with
        | true =>
          rw [he] at hseq
          have He := Lib.hid he
          clear he
          go_wp2_with fail
          go_quiet (fail)
          go_wp2
          go_roundw
          case rel =>
            refine ⟨k+1, by omega, by go_num, ?_, _, rfl⟩
            rw [take_snoc Hp.out, take_snoc Hq.out, Hkk.out, of_decide_eq_true He.out]
          case measure => simp [intOf]; omega
        | false =>
          rw [he] at hseq
          have He := Lib.hid he
          clear he
          go_wp2_with fail
          go_quiet (fail)
          go_wp2
          go_ret
          refine ⟨ret_bool ?_, n + nq, World.drewN_drewN _ _ _⟩
          symm; rw [decide_eq_false_iff_not]; rintro rfl
          have h3 := Hp.out.symm.trans Hq.out
          exact of_decide_eq_false He.out (Option.some.inj h3)
      · go_wp2
        go_ret
        have hkx : k = x.length := by omega
        refine ⟨ret_bool ?_, _, rfl⟩
        have h3 := Hkk.out
        have h4 := Hl.out
        rw [List.take_of_length_le (by omega), List.take_of_length_le (by omega)] at h3
        simp [h3]
  · have hb : ((x.length : Int) != y.length) = true := by rw [bne_iff_ne]; omega
    have Hl := Lib.hid hl
    clear hl
    go_enter Tryz.func45, Tryz.ntmps45
    go_wp2
    go_ret
    refine ⟨ret_bool ?_, 0, rfl⟩
    symm; rw [decide_eq_false_iff_not]; rintro rfl; exact Hl.out rfl
def LentAt (w : World) (B g cap : Nat) (x : List UInt8) : Prop := w.ownsRow B 5 1 (.slice (some ⟨g, 0, none⟩) (x.length + 1) cap) (x.length + 1) (u8s x ++ [.int .u8 201])
def LentPost (x : List UInt8) (w : World) (e : Ending) (w' : World) : Prop :=
  ∃ g cap, e = .returned (.slice (some ⟨g, 0, none⟩) x.length cap) ∧ LentAt w' w.heap.size g cap x ∧ Below w.heap.size w w'
theorem LentAt.bs {w : World} {B g cap : Nat} {x : List UInt8} (h : LentAt w B g cap x) : Bs w (some ⟨g, 0, none⟩) cap x := by
  obtain ⟨_, _, he, _, _, h1, h2⟩ := own_form h
  simp only [Value.slice.injEq] at he
  obtain ⟨rfl, _, rfl⟩ := he
  refine ⟨by simp [u8s], by simp, by omega, h2, fun _ => ⟨g, 0, rfl, fun j hj => ?_⟩⟩
  rw [Nat.zero_add, u8s_at (by omega)]
  refine own_cell h ?_
  rw [List.getElem?_append_left (by rw [u8s_length]; omega), u8s_at (by omega)]
set_option maxHeartbeats 1000000 in
set_option maxRecDepth 100000 in
theorem lent_any (x : List UInt8) (A : Option Addr) (c : Nat) (w : World) (hx : x.length ≤ 1048575) (h1 : Bs w A c x) :
    Calls Tryz.prog 30 #[.slice A x.length c] w (LentPost x w) := by
  have H1 := Lib.hid h1
  clear h1
  obtain ⟨i0, hi0, hz0, hz1, hz2⟩ := info_parts infoU8r
  go_enter Tryz.func30, Tryz.ntmps30
  go_wp2_with fail
  refine (rbytes_any x A c w (by omega) H1.out).mono ?_
  rintro e z ⟨v, rfl, hv, hby⟩
  obtain ⟨Av, cv, rfl, _, _, hvc, hvm⟩ := own_form hv
  have hownZ : ∀ o', (z.alloc o').ownsRow w.heap.size 5 1 (.slice Av x.length cv) x.length (u8s x) := fun o' => own_keep hv fun g' c' hg' => (Below.heap_alloc z o' g' (lt_of_heap hg')).trans hg'
  have hnw : ∀ j v, [Value.int .u8 201][j]? = some v → (z.alloc (.cells #[.int .u8 201] 5)).cell? ((⟨z.heap.size, 0, none⟩ : Addr).add j) = some v := fun j v hv => World.news_of_block (w := z.alloc _) (heap_alloc_new z _) j v hv
  have hone1 : ∀ v ∈ [Value.int .u8 201], v.oneCell' = true := by
    intro v hv
    simp only [List.mem_cons, List.not_mem_nil, or_false] at hv
    rcases hv with rfl
    rfl
  have hsz := hby.size
  have HownZ := Lib.hid hownZ
  have Hnw := Lib.hid hnw
  have Hone1 := Lib.hid hone1
  have Hby := Lib.hid hby
  have Hv := Lib.hid hv
  clear hownZ hnw hone1 hby hv
  go_wp2_with (first | (at_builtin; refine wpList_append_lies _ rfl _ _ 29 rfl w.heap.size 5 i0 (.int .u8 0) 1 1 Tryz.underlying29 hi0 hz0 hz1 hz2 rfl (by omega) (.slice Av x.length cv) x.length (u8s x) rfl (HownZ.out _) ⟨z.heap.size, 0, none⟩ 1 1 [.int .u8 201] rfl rfl Hnw.out Hone1.out (by omega) (by simp [maxLen]; omega) (by omega) (by simp; omega) (z.heap.size + 1) (by simp) ?_))
  intro g cap z2 hown hgrow _ _
  have hb2 : Below w.heap.size w z2 := (Hby.out.alloc hsz (.cells #[.int .u8 201] 5)).grown hgrow (by simp; omega) (fun k' hk' => (own_blk Hv.out k' hk').1)
  obtain ⟨_, _, he, _, _, hc1, hc2⟩ := own_form hown
  simp only [Value.slice.injEq] at he
  obtain ⟨rfl, _, rfl⟩ := he
  have hle : x.length ≤ cap := by omega
  have Hown := Lib.hid hown
  have Hb2 := Lib.hid hb2
  clear hown hgrow hb2 hc1 hc2
  go_wp2_with fail
  go_ret
  exact ⟨g, cap, rfl, Hown.out, Hb2.out⟩

set_option maxHeartbeats 1000000 in
set_option maxRecDepth 100000 in
theorem kept_any (x : List UInt8) (B g cap : Nat) (A : Option Addr) (c : Nat) (w : World) (hx : x.length ≤ 1048575) (h1 : LentAt w B g cap x) (h2 : Bs w A c x) :
    Calls Tryz.prog 33 #[.slice (some ⟨g, 0, none⟩) x.length cap, .slice A x.length c] w fun e w' => e = .returned (.bool true) ∧ ∃ n, w' = w.drewN n := by
  have H1 := Lib.hid h1
  have H2 := Lib.hid h2
  have g0 : w.cell? ⟨g, x.length, none⟩ = some (.int .u8 201) := by
    refine own_cell h1 ?_
    rw [List.getElem?_append_right (by rw [u8s_length]; exact Nat.le_refl _), u8s_length, Nat.sub_self]
    rfl
  obtain ⟨_, _, he, _, _, hc1, hc2⟩ := own_form h1
  simp only [Value.slice.injEq] at he
  obtain ⟨rfl, _, rfl⟩ := he
  clear h1 h2
  go_enter Tryz.func33, Tryz.ntmps33
  go_wp2_with fail
  refine (same_any x x _ A _ c w H1.out.bs H2.out).mono ?_
  rintro e w1 ⟨rfl, n, rfl⟩
  rw [show (x == x) = true from BEq.rfl]
  go_wp2_with fail
  go_ret
  exact ⟨rfl, n, rfl⟩

end Go.Proofs.YtaolddgnannojaaGreatDoor
namespace Go.Proofs.YtaolddgnannojaaGreatDoor
open Go.RowKit Go.Maps

attribute [local go_sem] lt1 lt2 lt3 lt4 lt5 lt6

theorem len_data (s : ByteArray) : s.data.toList.length = s.size := rfl
theorem pre_len {s p : ByteArray} (h : Lib.hasPrefix s.data.toList p.data.toList = true) : p.size ≤ s.size := by
  have h1 := (List.isPrefixOf_iff_prefix.1 h).length_le
  rwa [len_data, len_data] at h1
theorem pre_take {s p : ByteArray} : ((s.extract 0 p.size).toList == p.toList) = Lib.hasPrefix s.data.toList p.data.toList := by
  rw [toList_toL, toList_toL]
  have e : toL (s.extract 0 p.size) = s.data.toList.take p.size := by
    show (s.extract 0 p.size).data.toList = _
    simp
  rw [e, Bool.eq_iff_iff, beq_iff_eq]
  unfold Lib.hasPrefix
  rw [List.isPrefixOf_iff_prefix, List.prefix_iff_eq_take, len_data]
  exact eq_comm
theorem begins_ref (w : World) (s p : ByteArray) :
    Calls Tryz.prog 82 #[.string s, .string p] w fun e w' => e = .returned (.bool (Lib.hasPrefix s.data.toList p.data.toList)) ∧ w = w' := by
  by_cases h : p.size ≤ s.size
  · have hI : (p.size : Int) ≤ s.size := by omega
    have he := pre_take (s := s) (p := p)
    rw [← he]
    clear he
    go_enter Tryz.func82, Tryz.ntmps82
    go_wp2_with fail
    go_ret
    exact ⟨rfl, rfl⟩
  · have hI : ¬ (p.size : Int) ≤ s.size := by omega
    have hn : Lib.hasPrefix s.data.toList p.data.toList = false := by
      rw [Bool.eq_false_iff]
      exact fun hh => h (pre_len hh)
    rw [hn]
    go_enter Tryz.func82, Tryz.ntmps82
    go_wp2_with fail
    go_ret
    exact ⟨rfl, rfl⟩
end Go.Proofs.YtaolddgnannojaaGreatDoor
namespace Go.Proofs.YtaolddgnannojaaGreatDoor
open Go.RowKit Go.Maps

attribute [local go_sem] lt1 lt2 lt3 lt4 lt5 lt6

def lstTo (R : RSt) (dir : ByteArray) (k : Nat) : List ByteArray := ((R.now.take k).map (·.1)).filter fun s => below dir (toL s)
theorem lstTo_snoc (R : RSt) (dir : ByteArray) {k : Nat} (h : k < R.now.length) : lstTo R dir (k + 1) = if below dir (toL (R.now.getD k noN).1) then lstTo R dir k ++ [(R.now.getD k noN).1] else lstTo R dir k := by
  have hg : R.now[k] = R.now.getD k noN := by rw [List.getD_eq_getElem?_getD, List.getElem?_eq_getElem h]; rfl
  unfold lstTo
  rw [List.take_succ_eq_append_getElem h, List.map_append, List.filter_append, hg]
  by_cases hb : below dir (toL (R.now.getD k noN).1) = true
  · rw [if_pos hb]
    simp only [List.map_cons, List.map_nil]
    rw [List.filter_cons_of_pos (by simpa using hb), List.filter_nil]
  · rw [if_neg hb]
    simp only [List.map_cons, List.map_nil]
    rw [List.filter_cons_of_neg (by simpa using hb), List.filter_nil, List.append_nil]
theorem lstTo_le (R : RSt) (dir : ByteArray) (k : Nat) : (lstTo R dir k).length ≤ k := by
  unfold lstTo
  refine Nat.le_trans (List.length_filter_le _ _) ?_
  rw [List.length_map, List.length_take]
  omega
def LiRel (w : World) (R : RSt) (dir : ByteArray) (ov iv : Value) (wr : World) : Prop := ∃ k : Nat, k ≤ R.now.length ∧ iv = .int .i64 k ∧ wr.ownsRow w.heap.size 9 1 ov (lstTo R dir k).length (txs (lstTo R dir k)) ∧ Below w.heap.size w wr
def RListPost (w : World) (L : List ByteArray) (e : Ending) (w' : World) : Prop := ∃ v, e = .returned v ∧ w'.ownsRow w.heap.size 9 1 v L.length (txs L) ∧ Below w.heap.size w w'
set_option maxHeartbeats 8000000 in
set_option maxRecDepth 100000 in
theorem rlist_any (w : World) (M : RMem) (R : RSt) (h : RAt w M R) (hl : R.now.length ≤ 1048576) (dir : ByteArray) (hdir : dir.size ≤ 1048576) :
    Calls Tryz.prog 47 #[.pointer (some ⟨M.rb, 0, none⟩), .string dir] w (RListPost w (R.list dir)) := by
  obtain ⟨P, hP⟩ : ∃ P, P = RListPost w (R.list dir) := ⟨_, rfl⟩
  rw [← hP]
  have HP := Lib.hid hP
  obtain ⟨Aw, cw, hwv, hat⟩ := h.now.rows
  have c2 : w.cell? ⟨M.rb, 2, none⟩ = some (.slice Aw R.now.length cw) := by rw [← hwv]; exact h.cell 2 _ rfl
  have Hat := Lib.hid hat
  obtain ⟨iF, hiF, hzF, hsF, hbF⟩ := info_parts infoStr1
  have hsz : ¬ 9223372036854775807 < dir.size + 1 := by omega
  clear hP h hat hwv
  go_enter Tryz.func47, Tryz.ntmps47
  go_wp2_with fail
  go_loopw [5, 6] (fun ov iv wr => LiRel w R dir ov iv wr) (fun _ iv _ => R.now.length - (intOf iv).toNat)
  case atStart => exact ⟨0, by omega, rfl, World.ownsRow_nil _ _ _ _, Below.refl _ _⟩
  case round =>
    obtain ⟨k, hk, rfl, hrow, hbl⟩ := hrel
    have hcw := Cells.of_below hbl
    have d2 := hcw _ _ c2
    have hle := lstTo_le R dir k
    obtain ⟨n, hn⟩ : ∃ n, n = (lstTo R dir k).length := ⟨_, rfl⟩
    rw [← hn] at hrow hle
    obtain ⟨Ao, co, hov⟩ := own_formT hrow
    subst hov
    have Hrow := Lib.hid hrow
    have Hbl := Lib.hid hbl
    have Hn := Lib.hid hn
    clear hrow hbl hn
    by_cases hlt : k < R.now.length
    · have hkI : (k : Int) < R.now.length := by omega
      obtain ⟨b, o, rfl, q0, q1⟩ := (Hat.out.keep hcw).at_ hlt
      have hsn := lstTo_snoc R dir hlt
      clear hcw
      generalize R.now.getD k noN = p at *
      have hbd : below dir (toL p.1) = ((dir.size == 0) || Lib.hasPrefix (toL p.1) (dir ++ ⟨#[47]⟩ : ByteArray).data.toList) := rfl
      obtain ⟨hp, hhp⟩ : ∃ hp, hp = Lib.hasPrefix (toL p.1) (dir ++ ⟨#[47]⟩ : ByteArray).data.toList := ⟨_, rfl⟩
      have hbg := begins_ref wr p.1 (dir ++ ⟨#[47]⟩)
      rw [show Lib.hasPrefix p.1.data.toList (dir ++ ⟨#[47]⟩ : ByteArray).data.toList = hp from hhp.symm] at hbg
      rw [← hhp] at hbd
      have Hbg := Lib.hid hbg
      have Hskip : Hid (below dir (toL p.1) = false → LiRel w R dir (.slice Ao n co) (.int .i64 ((k : Int) + 1)) wr) := Lib.hid fun hf => by
        rw [hf] at hsn
        refine ⟨k + 1, by omega, by simp, ?_, Hbl.out⟩
        rw [hsn]
        simp only [Bool.false_eq_true, if_false]
        rw [← Hn.out]
        exact Hrow.out
      have Htake : Hid (below dir (toL p.1) = true → lstTo R dir (k + 1) = lstTo R dir k ++ [p.1]) := Lib.hid fun ht => by
        rw [ht] at hsn
        simpa using hsn
      clear hbg hsn hhp
      by_cases hd0 : dir.size = 0
      · have e1 := str_none hd0
        have Ht := Lib.hid (Htake.out (by rw [hbd, hd0]; rfl))
        clear hd0 Hskip Htake hbd Hbg
        go_wp2_with (first | (at_builtin; refine wpList_append_own_at _ rfl _ _ 81 rfl w.heap.size 9 iF (.string ByteArray.empty) 1 16 Tryz.underlying81 hiF hzF hsF hbF rfl (by omega) (.slice Ao n co) n (txs (lstTo R dir k)) rfl (World.ownsRow.alloc Hrow.out _) ⟨wr.heap.size, 0, none⟩ 1 1 [.string p.1] rfl rfl (fun j v hv => World.news_of_block (heap_alloc_new _ _) j v hv) (fun u hu => by rw [List.mem_singleton.1 hu]; rfl) (by unfold maxLen; omega) (by omega) (by have := Hbl.out.size; simp; omega) ?_))
        intro v7 w7 h7 hg7 _ _
        have hg8 : wr.grownBy w7 (Value.slice Ao n co).ownBlock := (World.grownBy_alloc wr _ _).andThen hg7 (fun j hj => .inr hj)
        obtain ⟨A7, c7, hv7⟩ := own_formT h7
        have Hfin : Hid (LiRel w R dir v7 (.int .i64 ((k : Int) + 1)) w7) := Lib.hid ⟨k + 1, by omega, by simp, by
          rw [Ht.out, List.length_append, ← Hn.out]
          have e9 : txs (lstTo R dir k ++ [p.1]) = txs (lstTo R dir k) ++ [.string p.1] := by simp [txs]
          rw [e9]
          exact h7, Hbl.out.grown hg8 Hbl.out.size fun k hk => (own_blk Hrow.out k hk).1⟩
        rw [hv7] at Hfin ⊢
        clear h7 hg7 hg8 hv7
        go_wp2_with fail
        go_roundw
        case rel => exact Hfin.out
        case measure => simp [intOf]; omega
      · have e1 := str_some hd0
        have hb0 : below dir (toL p.1) = hp := by rw [hbd]; simp [hd0]
        rw [hb0] at Hskip Htake
        clear hbd hb0 hd0
        go_wp2_with fail
        refine Hbg.out.mono ?_
        rintro e w1 ⟨rfl, rfl⟩
        cases hp
        · have Hs := Lib.hid (Hskip.out rfl)
          clear Hskip Htake Hbg
          go_wp2_with fail
          go_roundw
          case rel => exact Hs.out
          case measure => simp [intOf]; omega
        · have Ht := Lib.hid (Htake.out rfl)
          clear Hskip Htake Hbg
          go_wp2_with (first | (at_builtin; refine wpList_append_own_at _ rfl _ _ 81 rfl w.heap.size 9 iF (.string ByteArray.empty) 1 16 Tryz.underlying81 hiF hzF hsF hbF rfl (by omega) (.slice Ao n co) n (txs (lstTo R dir k)) rfl (World.ownsRow.alloc Hrow.out _) ⟨wr.heap.size, 0, none⟩ 1 1 [.string p.1] rfl rfl (fun j v hv => World.news_of_block (heap_alloc_new _ _) j v hv) (fun u hu => by rw [List.mem_singleton.1 hu]; rfl) (by unfold maxLen; omega) (by omega) (by have := Hbl.out.size; simp; omega) ?_))
          intro v7 w7 h7 hg7 _ _
          have hg8 : wr.grownBy w7 (Value.slice Ao n co).ownBlock := (World.grownBy_alloc wr _ _).andThen hg7 (fun j hj => .inr hj)
          obtain ⟨A7, c7, hv7⟩ := own_formT h7
          have Hfin : Hid (LiRel w R dir v7 (.int .i64 ((k : Int) + 1)) w7) := Lib.hid ⟨k + 1, by omega, by simp, by
            rw [Ht.out, List.length_append, ← Hn.out]
            have e9 : txs (lstTo R dir k ++ [p.1]) = txs (lstTo R dir k) ++ [.string p.1] := by simp [txs]
            rw [e9]
            exact h7, Hbl.out.grown hg8 Hbl.out.size fun k hk => (own_blk Hrow.out k hk).1⟩
          rw [hv7] at Hfin ⊢
          clear h7 hg7 hg8 hv7
          go_wp2_with fail
          go_roundw
          case rel => exact Hfin.out
          case measure => simp [intOf]; omega
    · obtain rfl : k = R.now.length := by omega
      have Hend : Hid (P (.returned (.slice Ao n co)) wr) := Lib.hid (by
        rw [HP.out]
        have e9 : lstTo R dir R.now.length = R.list dir := by unfold lstTo RSt.list; rw [List.take_length]
        refine ⟨_, rfl, ?_, Hbl.out⟩
        rw [← e9, ← Hn.out]
        exact Hrow.out)
      clear Hrow Hbl Hn hcw
      go_wp2_with fail
      exact Hend.out
end Go.Proofs.YtaolddgnannojaaGreatDoor
namespace Go.Proofs.YtaolddgnannojaaGreatDoor
open Go.RowKit Go.Maps

/-- the durable names are a new row -/
theorem RAt.setSafe {w w1 : World} {M : RMem} {R : RSt} (h : RAt w M R) (hb : Below w.heap.size w w1) {v : Value} {L : List NRow} (ho : NOwn w1 w.heap.size v L) :
    RAt (w1.setCell ⟨M.rb, 3, none⟩ v) { M with sv := v } { R with safe := L } ∧ RGr M w { M with sv := v } (w1.setCell ⟨M.rb, 3, none⟩ v) := by
  have h1 := h.below hb
  have hnew : ∀ b, v.ownBlock = some b → w.heap.size ≤ b := fun b hb => (own_blk ho b hb).1
  have hf : Fr [M.rb] w1 (w1.setCell ⟨M.rb, 3, none⟩ v) := Fr.setCell _ _ _ _ (by simp)
  have hrb : M.rb < w.heap.size := lt_of_heap h.blk
  have hne : ∀ k, k ∈ M.own → k ≠ M.rb → k ∉ [M.rb] := fun k _ hk hh => hk (List.mem_singleton.1 hh)
  have ho2 : ∀ k, (M.nv.ownBlock = some k ∨ M.wv.ownBlock = some k ∨ M.sv.ownBlock = some k ∨ M.pv.ownBlock = some k ∨ ∃ v ∈ M.ds, v.ownBlock = some k) → k ∉ [M.rb] := fun k hk hh => by
    rw [List.mem_singleton.1 hh] at hk
    refine (List.nodup_cons.1 h.nodup).1 ?_
    simp only [List.mem_append, Option.mem_toList, List.mem_flatMap]
    exact hk
  have hlow : ∀ k, k ∈ M.own → k < w.heap.size := h.lt
  refine ⟨⟨?_, row_kept h1.nodes hf fun b hb => ho2 b (.inl hb), all2_mem h1.data fun v _ hv hd => data_kept hd hf fun b hb => ho2 b (.inr (.inr (.inr (.inr ⟨v, hv, hb⟩)))), row_kept h1.now hf fun b hb => ho2 b (.inr (.inl hb)), ?_, row_kept h1.pend hf fun b hb => ho2 b (.inr (.inr (.inr (.inl hb)))), ?_⟩, ?_, ?_, rfl⟩
  · show (w1.setCell ⟨M.rb, 3, none⟩ v).heap[M.rb]? = _
    rw [heap_setCell_at h1.blk]
    rfl
  · exact own_base (row_kept ho hf fun b hb hh => by
      rw [List.mem_singleton.1 hh] at hb
      have := hnew _ hb
      omega) (Nat.zero_le _)
  · have e0 : M.own = (M.rb :: (M.nv.ownBlock.toList ++ M.wv.ownBlock.toList)) ++ (M.sv.ownBlock.toList ++ (M.pv.ownBlock.toList ++ M.ds.flatMap fun v => v.ownBlock.toList)) := by
      unfold RMem.own
      simp [List.append_assoc]
    have e1 : RMem.own { M with sv := v } = (M.rb :: (M.nv.ownBlock.toList ++ M.wv.ownBlock.toList)) ++ (v.ownBlock.toList ++ (M.pv.ownBlock.toList ++ M.ds.flatMap fun v => v.ownBlock.toList)) := by
      unfold RMem.own
      simp [List.append_assoc]
    have hnd := h.nodup
    rw [e0] at hnd
    rw [e1]
    refine nodup_swap hnd (opt_nodup _) fun y hy => ?_
    have h5 := hnew y (by simpa using hy)
    refine ⟨fun hh => ?_, fun hh => ?_⟩
    · have := hlow y (by rw [e0]; exact List.mem_append_left _ hh)
      omega
    · have := hlow y (by rw [e0]; exact List.mem_append_right _ (List.mem_append_right _ hh))
      omega
  · have hfb : Fr [M.rb] w w1 := Fr.of_below hb _
    exact (hfb.trans hf).more fun k hk => by rw [List.mem_singleton.1 hk]; exact RMem.mem_own.2 (.inl rfl)
  · intro k hk
    rcases RMem.mem_own.1 hk with h5 | h5 | h5 | h5 | h5 | h5
    · exact .inl (RMem.mem_own.2 (.inl h5))
    · exact .inl (RMem.mem_own.2 (.inr (.inl h5)))
    · exact .inl (RMem.mem_own.2 (.inr (.inr (.inl h5))))
    · exact .inr (hnew k h5)
    · exact .inl (RMem.mem_own.2 (.inr (.inr (.inr (.inr (.inl h5))))))
    · exact .inl (RMem.mem_own.2 (.inr (.inr (.inr (.inr (.inr h5))))))
end Go.Proofs.YtaolddgnannojaaGreatDoor
