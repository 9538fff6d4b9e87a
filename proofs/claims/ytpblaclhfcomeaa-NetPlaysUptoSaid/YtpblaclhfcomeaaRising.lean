/-
  Rising: texts, rising, each once.
-/
import Derived.Test.YtpblaclhfcomeaaRefGet
namespace Go.Proofs.Ytpblaclhfcomeaa
open Go.RowKit Go.Maps

attribute [local go_sem] lt1 lt2 lt3 lt4 lt5 lt6

theorem sl_of_own {w : World} {base n cap : Nat} {t : TypeId} {A : Option Addr} {xs : List Value} (h : w.ownsRow base t 1 (.slice A n cap) n xs) : Sl w A cap n 1 xs := by
  obtain ⟨A', cap', he, hs⟩ := row_sl h
  simp only [Value.slice.injEq, true_and] at he
  obtain ⟨rfl, rfl⟩ := he
  exact hs
def ltS (a b : ByteArray) : Prop := a.data.toList < b.data.toList
instance (a b : ByteArray) : Decidable (ltS a b) := inferInstanceAs (Decidable (a.data.toList < b.data.toList))
theorem less_eq : ∀ (x y : List UInt8), Op.bytesLess x y = decide (x < y)
  | [], [] => by simp [Op.bytesLess]
  | _ :: _, [] => by simp [Op.bytesLess]
  | [], _ :: _ => by simp [Op.bytesLess]
  | a :: x, b :: y => by
    rw [Op.bytesLess, less_eq x y]
    by_cases h : a = b <;> simp [List.cons_lt_cons_iff, h]
theorem less_str (a b : ByteArray) : Op.bytesLess a.toList b.toList = decide (ltS a b) := by
  rw [less_eq, Lib.toList_data, Lib.toList_data]
  rfl
/-- the texts of l, rising, each once -/
def Rises (l o : List ByteArray) : Prop := o.Pairwise ltS ∧ ∀ s, s ∈ o ↔ s ∈ l
theorem ltS_trans {a b c : ByteArray} (h : ltS a b) (k : ltS b c) : ltS a c := List.lt_trans h k
theorem ltS_total {a b : ByteArray} (h : ¬ ltS a b) (k : a ≠ b) : ltS b a := by
  unfold ltS at *
  rcases List.le_total a.data.toList b.data.toList with h1 | h1
  · exact absurd (List.le_antisymm h1 (List.not_lt.1 h)) fun e => k (by
      cases a; cases b
      simp only [ByteArray.mk.injEq]
      exact Array.toList_inj.1 e)
  · exact List.not_le.1 fun h2 => k (by
      have e := List.le_antisymm h2 h1
      cases a; cases b
      simp only [ByteArray.mk.injEq]
      exact Array.toList_inj.1 e)
theorem Rises.skip {l o : List ByteArray} {s : ByteArray} (h : Rises l o) (hs : s ∈ o) : Rises (l ++ [s]) o :=
  ⟨h.1, fun t => by
    rw [h.2, List.mem_append, List.mem_singleton]
    refine ⟨.inl, fun ht => ht.elim id fun e => ?_⟩
    rw [e]
    exact (h.2 s).1 hs⟩
theorem Rises.insert {l o : List ByteArray} {s : ByteArray} {k : Nat} (h : Rises l o) (hb : ∀ (j : Nat) q, j < k → o[j]? = some q → ltS q s) (ha : ∀ t, o[k]? = some t → ¬ ltS t s ∧ t ≠ s) : Rises (l ++ [s]) (o.take k ++ [s] ++ o.drop k) := by
  have hp := h.1
  have hcut : o.take k ++ o.drop k = o := List.take_append_drop k o
  have hlow : ∀ q ∈ o.take k, ltS q s := by
    intro q hq
    obtain ⟨j, hj⟩ := List.getElem?_of_mem hq
    have hjk : j < k := by
      have := (List.getElem?_eq_some_iff.1 hj).1
      simp at this
      omega
    rw [List.getElem?_take_of_lt hjk] at hj
    exact hb j q hjk hj
  have hhigh : ∀ q ∈ o.drop k, ltS s q := by
    intro q hq
    cases hd : o[k]? with
    | none =>
      rw [List.drop_eq_nil_of_le (List.getElem?_eq_none_iff.1 hd)] at hq
      simp at hq
    | some t =>
      obtain ⟨h1, h2⟩ := ha t hd
      have hst := ltS_total h1 h2
      obtain ⟨j, hj⟩ := List.getElem?_of_mem hq
      rw [List.getElem?_drop] at hj
      by_cases hj0 : j = 0
      · subst hj0
        rw [Nat.add_zero, hd] at hj
        cases hj
        exact hst
      · obtain ⟨l1, e1⟩ := List.getElem?_eq_some_iff.1 hd
        obtain ⟨l2, e2⟩ := List.getElem?_eq_some_iff.1 hj
        have := List.pairwise_iff_getElem.1 hp k (k + j) l1 l2 (by omega)
        rw [e1, e2] at this
        exact ltS_trans hst this
  refine ⟨?_, fun t => ?_⟩
  · rw [← hcut] at hp
    obtain ⟨p1, p2, p3⟩ := List.pairwise_append.1 hp
    rw [List.append_assoc, List.pairwise_append]
    refine ⟨p1, ?_, fun a ha2 b hb2 => ?_⟩
    · rw [List.singleton_append, List.pairwise_cons]
      exact ⟨hhigh, p2⟩
    · rw [List.singleton_append, List.mem_cons] at hb2
      rcases hb2 with rfl | hb2
      · exact hlow a ha2
      · exact p3 a ha2 b hb2
  · rw [List.mem_append (s := l), List.mem_singleton, ← h.2]
    have : t ∈ o ↔ t ∈ o.take k ∨ t ∈ o.drop k := by rw [← List.mem_append, hcut]
    rw [this]
    simp only [List.mem_append, List.mem_singleton]
    constructor
    · rintro ((h | h) | h)
      · exact .inl (.inl h)
      · exact .inr h
      · exact .inl (.inr h)
    · rintro ((h | h) | h)
      · exact .inl (.inl h)
      · exact .inr h
      · exact .inl (.inr h)
def RiseRel (w : World) (log : List ByteArray) (v iv : Value) (wr : World) : Prop :=
  ∃ (i : Nat) (o : List ByteArray), i ≤ log.length ∧ iv = .int .i64 i ∧ o.length ≤ i ∧ Rises (log.take i) o ∧ wr.ownsRow w.heap.size 9 1 v o.length (o.map Value.string) ∧ Below w.heap.size w wr
def RisePost (w : World) (log : List ByteArray) (e : Ending) (w' : World) : Prop :=
  ∃ (v : Value) (o : List ByteArray), e = .returned v ∧ Rises log o ∧ w'.ownsRow w.heap.size 9 1 v o.length (o.map Value.string) ∧ Below w.heap.size w w'
def AtRel (x : World) (o : List ByteArray) (s : ByteArray) (av : Value) (wr : World) : Prop :=
  ∃ k n : Nat, k ≤ o.length ∧ av = .int .i64 k ∧ (∀ (j : Nat) q, j < k → o[j]? = some q → ltS q s) ∧ wr = x.drewN n
set_option maxHeartbeats 2000000 in
set_option maxRecDepth 100000 in
theorem rising_any (w : World) (log : List ByteArray) (A : Option Addr) (c : Nat) (h : Sl w A c log.length 1 (log.map Value.string)) (hl : log.length ≤ 1000000) :
    Calls Try.prog 28 #[.slice A log.length c] w (RisePost w log) := by
  have H := Lib.hid h
  clear h
  obtain ⟨i0, hi0, hz0, hz1, hz2⟩ := info_parts infoStr
  go_enter Try.func28, Try.ntmps28
  go_wp2_with fail
  go_loopw [3, 4] (fun v iv wr => RiseRel w log v iv wr) (fun _ iv _ => log.length - (intOf iv).toNat)
  case atStart => exact ⟨0, [], by omega, rfl, by simp, ⟨List.Pairwise.nil, by simp⟩, World.ownsRow_nil _ _ _ _, Below.refl _ _⟩
  case round =>
    obtain ⟨i, o, hi, rfl, hoi, hris, hrow, hB⟩ := hrel
    have Hris := Lib.hid hris
    have Hrow := Lib.hid hrow
    have HB := Lib.hid hB
    obtain ⟨Av, cv, hv, hAn, hAs, hnc, hcm⟩ := own_form hrow
    subst hv
    have ho63 : o.length ≤ 1000000 := by omega
    clear hrow hB hris
    by_cases hlt : i < log.length
    · obtain ⟨b, of, s, rfl, hs, g0⟩ := str_at H.out hlt
      have Hs := Lib.hid hs
      have g1 := Cells.of_below HB.out _ _ g0
      clear hs g0
      go_wp2_with fail
      go_loopw [5] (fun av wr2 => AtRel wr o s av wr2) (fun av _ => o.length - (intOf av).toNat)
      case atStart => exact ⟨0, 0, by omega, rfl, fun j q hj => by omega, rfl⟩
      case round =>
        obtain ⟨k, n, hk, rfl, hbel, rfl⟩ := hrel
        have Hbel := Lib.hid hbel
        clear hbel
        cases Av with
        | none =>
          have ho0 : o = [] := List.eq_nil_of_length_eq_zero (hAn rfl).1
          have hcv0 := (hAn rfl).2
          subst ho0 hcv0
          have hk0 : k = 0 := by simpa using hk
          subst hk0
          have hins := Hris.out.insert (s := s) (k := 0) (fun j q hj => by omega) (fun t ht => by simp at ht)
          have Hins := Lib.hid hins
          clear hins
          go_wp2_with fail
          go_quiet (fail)
          generalize nq = nqa at *
          go_wp2
          go_quiet (fail)
          have hx : Below wr.heap.size wr (((wr.drewN n).drewN nqa).drewN nq) := Fr.below_drewN (Fr.below_drewN (Fr.below_drewN (Below.refl _ _) _) _) _
          generalize (((wr.drewN n).drewN nqa).drewN nq) = x at *
          have g3 := Cells.of_below hx _ _ g1
          have hBx : Below w.heap.size w x := HB.out.trans (hx.mono HB.out.size)
          have hwx := hBx.size
          have hbx := World.block_lt_of_cell? x _ g3
          have HBx := Lib.hid hBx
          clear hx g1 hBx Hrow HB Hbel Hris
          have hmade : (x.alloc (.cells #[] 9)).ownsRow x.heap.size 9 1 (.slice (some ⟨x.heap.size, 0, none⟩) 0 0) 0 [] := World.ownsRow_made x #[] 0 (Nat.le_refl _) (by simp) (by simp)
          have Hmade := Lib.hid hmade
          clear hmade
          have hownZ : ∀ o', ((x.alloc (.cells #[] 9)).alloc o').ownsRow x.heap.size 9 1 (.slice (some ⟨x.heap.size, 0, none⟩) 0 0) 0 [] := fun o' => own_keep Hmade.out fun g' c' hg' => (Below.heap_alloc (x.alloc _) o' g' (lt_of_heap hg')).trans hg'
          have hnw : ∀ j v, [Value.string s][j]? = some v → ((x.alloc (.cells #[] 9)).alloc (.cells #[.string s] 9)).cell? ((⟨x.heap.size + 1, 0, none⟩ : Addr).add j) = some v := by
            intro j v hv
            have := World.news_of_block (w := (x.alloc (.cells #[] 9)).alloc _) (heap_alloc_new (x.alloc (.cells #[] 9)) (.cells #[.string s] 9)) j v hv
            simpa using this
          have hone1 : ∀ v ∈ [Value.string s], v.oneCell' = true := by
            intro v hv
            simp only [List.mem_cons, List.not_mem_nil, or_false] at hv
            rcases hv with rfl
            rfl
          have HownZ := Lib.hid hownZ
          have Hnw := Lib.hid hnw
          have Hone1 := Lib.hid hone1
          clear hownZ hnw hone1
          go_wp2_with (first | (at_builtin; refine wpList_append_lies _ rfl _ _ 41 rfl x.heap.size 9 i0 (.string ⟨#[]⟩) 1 16 Try.underlying41 hi0 hz0 hz1 hz2 rfl (by omega) (.slice (some ⟨x.heap.size, 0, none⟩) 0 0) 0 [] rfl (HownZ.out _) ⟨x.heap.size + 1, 0, none⟩ 1 1 [.string s] rfl rfl Hnw.out Hone1.out (by omega) (by simp [maxLen]) (by omega) (by simp; omega) (x.heap.size + 1 + 1) (by simp) ?_))
          intro g9 cap2 z hown2 hgrow2 _ _
          have hbz : Below x.heap.size x z := (((Below.refl x.heap.size x).alloc (Nat.le_refl _) (.cells #[] 9)).alloc (by simp) (.cells #[.string s] 9)).grown hgrow2 (by simp; omega) (fun k' hk' => by cases hk'; exact Nat.le_refl _)
          have hown2 : z.ownsRow x.heap.size 9 1 (.slice (some ⟨g9, 0, none⟩) 1 cap2) 1 [.string s] := by simpa using hown2
          have Hbz := Lib.hid hbz
          have Hown2 := Lib.hid hown2
          clear hbz hown2 hgrow2 HownZ Hnw Hone1
          go_wp2_with (first | (at_builtin; refine wpList_append_own_none rfl _ _ 41 rfl x.heap.size 9 i0 1 Try.underlying41 hi0 _ 1 [.string s] rfl Hown2.out rfl ?_))
          go_wp2_with fail
          go_roundw
          case rel =>
            refine ⟨i + 1, [s], by omega, by go_num, by simp, ?_, own_base Hown2.out hwx, HBx.out.trans (Hbz.out.mono hwx)⟩
            rw [take_snoc Hs.out]
            have := Hins.out
            simpa using this
          case measure => simp [intOf]; omega
        | some a =>
          obtain ⟨g, rfl⟩ := hAs a rfl
          clear hAn hAs
          by_cases hko : k < o.length
          · obtain ⟨b2, o2, t, he2, ht, g2⟩ := str_at (sl_of_own Hrow.out) hko
            simp only [Option.some.injEq, Addr.mk.injEq, and_true] at he2
            obtain ⟨rfl, rfl⟩ := he2
            rw [Nat.zero_add] at g2
            have Ht := Lib.hid ht
            have hseq := str_eq t s
            have hless := less_str t s
            clear ht
            by_cases hts : ltS t s
            · rw [decide_eq_true hts] at hless
              have Hts := Lib.hid hts
              clear hts hseq
              go_wp2_with fail
              go_quiet (fail)
              go_wp2
              go_roundw
              case rel =>
                refine ⟨k + 1, _, by omega, by go_num, fun j q hj hq => ?_, rfl⟩
                by_cases hjk : j < k
                · exact Hbel.out j q hjk hq
                · obtain rfl : j = k := by omega
                  rw [Ht.out] at hq
                  cases hq
                  exact Hts.out
              case measure => simp [intOf]; omega
            · rw [decide_eq_false hts] at hless
              by_cases hte : t = s
              · rw [decide_eq_true hte] at hseq
                have Hte := Lib.hid hte
                clear hts hte
                go_wp2_with fail
                go_quiet (fail)
                go_wp2
                go_quiet (fail)
                go_wp2
                go_roundw
                case rel =>
                  refine ⟨i + 1, o, by omega, by go_num, by omega, ?_, own_keep Hrow.out fun _ _ hh => hh, Fr.below_drewN HB.out _⟩
                  rw [take_snoc Hs.out]
                  exact Hris.out.skip (Hte.out ▸ List.mem_of_getElem? Ht.out)
                case measure => simp [intOf]; omega
              · rw [decide_eq_false hte] at hseq
                have hins := Hris.out.insert Hbel.out (fun t' ht' => by rw [Ht.out] at ht'; cases ht'; exact ⟨hts, hte⟩)
                have Hins := Lib.hid hins
                clear hts hte hins
                go_wp2_with fail
                go_quiet (fail)
                generalize nq = nqa at *
                go_wp2
                go_quiet (fail)
                have hx : Below wr.heap.size wr (((wr.drewN n).drewN nqa).drewN nq) := Fr.below_drewN (Fr.below_drewN (Fr.below_drewN (Below.refl _ _) _) _) _
                generalize (((wr.drewN n).drewN nqa).drewN nq) = x at *
                have g3 := Cells.of_below hx _ _ g1
                have hrx := own_keep Hrow.out fun g' c' hg' => (hx.block g' (lt_of_heap hg')).trans hg'
                have hBx : Below w.heap.size w x := HB.out.trans (hx.mono HB.out.size)
                have hgx := (own_blk hrx g rfl).2.elim fun _ h => lt_of_heap h
                have hwx := hBx.size
                have Hrx := Lib.hid hrx
                have HBx := Lib.hid hBx
                clear hx g1 hrx hBx Hrow HB Hbel Hris
                have hmade : (x.alloc (.cells #[] 9)).ownsRow x.heap.size 9 1 (.slice (some ⟨x.heap.size, 0, none⟩) 0 0) 0 [] := World.ownsRow_made x #[] 0 (Nat.le_refl _) (by simp) (by simp)
                have hc1 : ∀ j u, ((o.take k).map Value.string)[j]? = some u → (x.alloc (.cells #[] 9)).cell? ((⟨g, 0, none⟩ : Addr).add j) = some u := by
                  intro j u hu
                  rw [Addr.add_lit, Nat.zero_add]
                  refine Cells.alloc _ _ _ _ (own_cell Hrx.out ?_)
                  have hjk : j < k := by have := (List.getElem?_eq_some_iff.1 hu).1; simp at this; omega
                  rw [List.getElem?_map] at hu ⊢
                  rwa [List.getElem?_take_of_lt hjk] at hu
                have hone : ∀ (l : List ByteArray), ∀ v ∈ l.map Value.string, v.oneCell' = true := by
                  intro l v hv
                  obtain ⟨t, _, rfl⟩ := List.mem_map.1 hv
                  rfl
                have hkl : ((o.take k).map Value.string).length = k * 1 := by simp; omega
                have Hmade := Lib.hid hmade
                have Hc1 := Lib.hid hc1
                have Hone := Lib.hid hone
                have Hkl := Lib.hid hkl
                clear hmade hc1 hone hkl
                go_wp2_with (first | (at_builtin; refine wpList_append_own _ rfl _ _ 41 rfl x.heap.size 9 i0 (.string ⟨#[]⟩) 1 16 Try.underlying41 hi0 hz0 hz1 hz2 rfl (by omega) (.slice (some ⟨x.heap.size, 0, none⟩) 0 0) 0 [] rfl Hmade.out ⟨g, 0, none⟩ k cv ((o.take k).map Value.string) rfl Hkl.out Hc1.out (Hone.out _) (by simp [maxLen]; omega) (by omega) (by simp) ?_))
                intro v1 y hown1 hgrow1 _
                obtain ⟨A1, cap1, rfl, _, _, _, _⟩ := own_form hown1
                have hby : Below x.heap.size x y := ((Below.refl x.heap.size x).alloc (Nat.le_refl _) _).grown hgrow1 (by simp) (by intro k' hk'; cases hk'; exact Nat.le_refl _)
                have g4 := Cells.of_below hby _ _ g3
                have hry := own_keep Hrx.out fun g' c' hg' => (hby.block g' (lt_of_heap hg')).trans hg'
                have hxy := hby.size
                have hown1 : y.ownsRow x.heap.size 9 1 (.slice A1 k cap1) k ((o.take k).map Value.string) := by simpa using hown1
                have Hry := Lib.hid hry
                have Hby := Lib.hid hby
                have Hown1 := Lib.hid hown1
                clear hby hry g3 Hmade Hc1 hown1 hgrow1
                have hownZ : ∀ o', (y.alloc o').ownsRow x.heap.size 9 1 (.slice A1 k cap1) k ((o.take k).map Value.string) := fun o' => own_keep Hown1.out fun g' c' hg' => (Below.heap_alloc y o' g' (lt_of_heap hg')).trans hg'
                have hnw : ∀ j v, [Value.string s][j]? = some v → (y.alloc (.cells #[.string s] 9)).cell? ((⟨y.heap.size, 0, none⟩ : Addr).add j) = some v := fun j v hv => World.news_of_block (w := y.alloc _) (heap_alloc_new y _) j v hv
                have hone1 : ∀ v ∈ [Value.string s], v.oneCell' = true := fun v hv => Hone.out [s] v (by simpa using hv)
                have HownZ := Lib.hid hownZ
                have Hnw := Lib.hid hnw
                have Hone1 := Lib.hid hone1
                clear hownZ hnw hone1
                go_wp2_with (first | (at_builtin; refine wpList_append_lies _ rfl _ _ 41 rfl x.heap.size 9 i0 (.string ⟨#[]⟩) 1 16 Try.underlying41 hi0 hz0 hz1 hz2 rfl (by omega) (.slice A1 k cap1) k ((o.take k).map Value.string) rfl (HownZ.out _) ⟨y.heap.size, 0, none⟩ 1 1 [.string s] rfl rfl Hnw.out Hone1.out (by omega) (by simp [maxLen]; omega) (by omega) (by simp; omega) (y.heap.size + 1) (by simp) ?_))
                intro g9 cap2 z hown2 hgrow2 _ _
                have hbz : Below x.heap.size x z := (Hby.out.alloc hxy (.cells #[.string s] 9)).grown hgrow2 (by simp; omega) (fun k' hk' => (own_blk Hown1.out k' hk').1)
                have hrz := own_keep Hrx.out fun g' c' hg' => (hbz.block g' (lt_of_heap hg')).trans hg'
                have hxz := hbz.size
                have Hrz := Lib.hid hrz
                have Hbz := Lib.hid hbz
                have hown2 : z.ownsRow x.heap.size 9 1 (.slice (some ⟨g9, 0, none⟩) (k + 1) cap2) (k + 1) ((o.take k).map Value.string ++ [.string s]) := by simpa using hown2
                have Hown2 := Lib.hid hown2
                clear hrz hbz hown2 hgrow2 Hry Hown1 HownZ Hnw Hone1 Hby g4
                have hc3 : ∀ ad : Addr, (ad = ⟨g, k, none⟩ ∨ o.length ≤ k) → ∀ j u, ((o.drop k).map Value.string)[j]? = some u → z.cell? (ad.add j) = some u := by
                  intro ad hor j u hu
                  rw [List.getElem?_map, List.getElem?_drop] at hu
                  rcases hor with rfl | hor
                  · rw [Addr.add_lit]
                    exact own_cell Hrz.out (by rw [List.getElem?_map]; exact hu)
                  · rw [List.getElem?_eq_none (by omega)] at hu
                    simp at hu
                have hdl : ((o.drop k).map Value.string).length = (o.length - k) * 1 := by simp
                have Hc3 := Lib.hid hc3
                have Hdl := Lib.hid hdl
                clear hc3 hdl
                go_wp2_with (first | (at_builtin; refine wpList_append_own _ rfl _ _ 41 rfl x.heap.size 9 i0 (.string ⟨#[]⟩) 1 16 Try.underlying41 hi0 hz0 hz1 hz2 rfl (by omega) (.slice (some ⟨g9, 0, none⟩) (k + 1) cap2) (k + 1) ((o.take k).map Value.string ++ [.string s]) rfl Hown2.out _ (o.length - k) _ ((o.drop k).map Value.string) rfl Hdl.out (Hc3.out _ (by first | exact .inl rfl | exact .inr (by omega))) (Hone.out _) (by simp [maxLen]; omega) (by omega) (by omega) ?_))
                intro v3 x3 hown3 hgrow3 _
                obtain ⟨A3, cap3, rfl, _, _, _, _⟩ := own_form hown3
                have hb3 : Below x.heap.size x x3 := Hbz.out.grown hgrow3 hxz (fun k' hk' => (own_blk Hown2.out k' hk').1)
                have hown3 : x3.ownsRow x.heap.size 9 1 (.slice A3 (k + 1 + (o.length - k)) cap3) (k + 1 + (o.length - k)) ((o.take k).map Value.string ++ [.string s] ++ (o.drop k).map Value.string) := by simpa using hown3
                have Hown3 := Lib.hid hown3
                have Hb3 := Lib.hid hb3
                clear hown3 hgrow3 hb3 Hone
                go_wp2_with fail
                go_roundw
                case rel =>
                  have e1 : k + 1 + (o.length - k) = (o.take k ++ [s] ++ o.drop k).length := by simp; omega
                  have e2 : (o.take k).map Value.string ++ [.string s] ++ (o.drop k).map Value.string = (o.take k ++ [s] ++ o.drop k).map Value.string := by simp
                  refine ⟨i + 1, o.take k ++ [s] ++ o.drop k, by omega, by go_num, by rw [← e1]; omega, ?_, ?_, HBx.out.trans (Hb3.out.mono hwx)⟩
                  · rw [take_snoc Hs.out]
                    exact Hins.out
                  · rw [← e2, ← e1]
                    exact own_base Hown3.out hwx
                case measure => simp [intOf]; omega
          · have hins := Hris.out.insert Hbel.out (fun t' ht' => by have := (List.getElem?_eq_some_iff.1 ht').1; omega)
            have Hins := Lib.hid hins
            clear hins
            go_wp2_with fail
            go_quiet (fail)
            generalize nq = nqa at *
            go_wp2
            go_quiet (fail)
            by_cases hck : cv = k
            · obtain rfl : k = cv := hck.symm
              have hx : Below wr.heap.size wr (((wr.drewN n).drewN nqa).drewN nq) := Fr.below_drewN (Fr.below_drewN (Fr.below_drewN (Below.refl _ _) _) _) _
              generalize (((wr.drewN n).drewN nqa).drewN nq) = x at *
              have g3 := Cells.of_below hx _ _ g1
              have hrx := own_keep Hrow.out fun g' c' hg' => (hx.block g' (lt_of_heap hg')).trans hg'
              have hBx : Below w.heap.size w x := HB.out.trans (hx.mono HB.out.size)
              have hgx := (own_blk hrx g rfl).2.elim fun _ h => lt_of_heap h
              have hwx := hBx.size
              have Hrx := Lib.hid hrx
              have HBx := Lib.hid hBx
              clear hx g1 hrx hBx Hrow HB Hbel Hris
              have hmade : (x.alloc (.cells #[] 9)).ownsRow x.heap.size 9 1 (.slice (some ⟨x.heap.size, 0, none⟩) 0 0) 0 [] := World.ownsRow_made x #[] 0 (Nat.le_refl _) (by simp) (by simp)
              have hc1 : ∀ j u, ((o.take k).map Value.string)[j]? = some u → (x.alloc (.cells #[] 9)).cell? ((⟨g, 0, none⟩ : Addr).add j) = some u := by
                intro j u hu
                rw [Addr.add_lit, Nat.zero_add]
                refine Cells.alloc _ _ _ _ (own_cell Hrx.out ?_)
                have hjk : j < k := by have := (List.getElem?_eq_some_iff.1 hu).1; simp at this; omega
                rw [List.getElem?_map] at hu ⊢
                rwa [List.getElem?_take_of_lt hjk] at hu
              have hone : ∀ (l : List ByteArray), ∀ v ∈ l.map Value.string, v.oneCell' = true := by
                intro l v hv
                obtain ⟨t, _, rfl⟩ := List.mem_map.1 hv
                rfl
              have hkl : ((o.take k).map Value.string).length = k * 1 := by simp; omega
              have Hmade := Lib.hid hmade
              have Hc1 := Lib.hid hc1
              have Hone := Lib.hid hone
              have Hkl := Lib.hid hkl
              clear hmade hc1 hone hkl
              go_wp2_with (first | (at_builtin; refine wpList_append_own _ rfl _ _ 41 rfl x.heap.size 9 i0 (.string ⟨#[]⟩) 1 16 Try.underlying41 hi0 hz0 hz1 hz2 rfl (by omega) (.slice (some ⟨x.heap.size, 0, none⟩) 0 0) 0 [] rfl Hmade.out ⟨g, 0, none⟩ k k ((o.take k).map Value.string) rfl Hkl.out Hc1.out (Hone.out _) (by simp [maxLen]; omega) (by omega) (by simp) ?_))
              intro v1 y hown1 hgrow1 _
              obtain ⟨A1, cap1, rfl, _, _, _, _⟩ := own_form hown1
              have hby : Below x.heap.size x y := ((Below.refl x.heap.size x).alloc (Nat.le_refl _) _).grown hgrow1 (by simp) (by intro k' hk'; cases hk'; exact Nat.le_refl _)
              have g4 := Cells.of_below hby _ _ g3
              have hry := own_keep Hrx.out fun g' c' hg' => (hby.block g' (lt_of_heap hg')).trans hg'
              have hxy := hby.size
              have hown1 : y.ownsRow x.heap.size 9 1 (.slice A1 k cap1) k ((o.take k).map Value.string) := by simpa using hown1
              have Hry := Lib.hid hry
              have Hby := Lib.hid hby
              have Hown1 := Lib.hid hown1
              clear hby hry g3 Hmade Hc1 hown1 hgrow1
              have hownZ : ∀ o', (y.alloc o').ownsRow x.heap.size 9 1 (.slice A1 k cap1) k ((o.take k).map Value.string) := fun o' => own_keep Hown1.out fun g' c' hg' => (Below.heap_alloc y o' g' (lt_of_heap hg')).trans hg'
              have hnw : ∀ j v, [Value.string s][j]? = some v → (y.alloc (.cells #[.string s] 9)).cell? ((⟨y.heap.size, 0, none⟩ : Addr).add j) = some v := fun j v hv => World.news_of_block (w := y.alloc _) (heap_alloc_new y _) j v hv
              have hone1 : ∀ v ∈ [Value.string s], v.oneCell' = true := fun v hv => Hone.out [s] v (by simpa using hv)
              have HownZ := Lib.hid hownZ
              have Hnw := Lib.hid hnw
              have Hone1 := Lib.hid hone1
              clear hownZ hnw hone1
              go_wp2_with (first | (at_builtin; refine wpList_append_lies _ rfl _ _ 41 rfl x.heap.size 9 i0 (.string ⟨#[]⟩) 1 16 Try.underlying41 hi0 hz0 hz1 hz2 rfl (by omega) (.slice A1 k cap1) k ((o.take k).map Value.string) rfl (HownZ.out _) ⟨y.heap.size, 0, none⟩ 1 1 [.string s] rfl rfl Hnw.out Hone1.out (by omega) (by simp [maxLen]; omega) (by omega) (by simp; omega) (y.heap.size + 1) (by simp) ?_))
              intro g9 cap2 z hown2 hgrow2 _ _
              have hbz : Below x.heap.size x z := (Hby.out.alloc hxy (.cells #[.string s] 9)).grown hgrow2 (by simp; omega) (fun k' hk' => (own_blk Hown1.out k' hk').1)
              have hrz := own_keep Hrx.out fun g' c' hg' => (hbz.block g' (lt_of_heap hg')).trans hg'
              have hxz := hbz.size
              have Hrz := Lib.hid hrz
              have Hbz := Lib.hid hbz
              have hown2 : z.ownsRow x.heap.size 9 1 (.slice (some ⟨g9, 0, none⟩) (k + 1) cap2) (k + 1) ((o.take k).map Value.string ++ [.string s]) := by simpa using hown2
              have Hown2 := Lib.hid hown2
              clear hrz hbz hown2 hgrow2 Hry Hown1 HownZ Hnw Hone1 Hby g4
              have hc2 : k + 1 ≤ cap2 := by
                obtain ⟨_, _, he, _, _, h1, _⟩ := own_form Hown2.out
                simp only [Value.slice.injEq] at he
                obtain ⟨_, _, rfl⟩ := he
                exact h1
              have hc4 : k + 1 + 0 ≤ cap2 := hc2
              go_wp2_with fail
              go_roundw
              case rel =>
                have hd : o.drop k = [] := List.drop_eq_nil_of_le (by omega)
                have e1 : k + 1 = (o.take k ++ [s] ++ o.drop k).length := by rw [hd]; simp; omega
                have e2 : (o.take k).map Value.string ++ [.string s] = (o.take k ++ [s] ++ o.drop k).map Value.string := by rw [hd]; simp
                refine ⟨i + 1, o.take k ++ [s] ++ o.drop k, by omega, by go_num, by rw [← e1]; omega, ?_, ?_, HBx.out.trans (Hbz.out.mono hwx)⟩
                · rw [take_snoc Hs.out]
                  exact Hins.out
                · rw [← e2, ← e1]
                  exact own_base Hown2.out hwx
              case measure => simp [intOf]; omega
            · skip
              have hx : Below wr.heap.size wr (((wr.drewN n).drewN nqa).drewN nq) := Fr.below_drewN (Fr.below_drewN (Fr.below_drewN (Below.refl _ _) _) _) _
              generalize (((wr.drewN n).drewN nqa).drewN nq) = x at *
              have g3 := Cells.of_below hx _ _ g1
              have hrx := own_keep Hrow.out fun g' c' hg' => (hx.block g' (lt_of_heap hg')).trans hg'
              have hBx : Below w.heap.size w x := HB.out.trans (hx.mono HB.out.size)
              have hgx := (own_blk hrx g rfl).2.elim fun _ h => lt_of_heap h
              have hwx := hBx.size
              have Hrx := Lib.hid hrx
              have HBx := Lib.hid hBx
              clear hx g1 hrx hBx Hrow HB Hbel Hris
              have hmade : (x.alloc (.cells #[] 9)).ownsRow x.heap.size 9 1 (.slice (some ⟨x.heap.size, 0, none⟩) 0 0) 0 [] := World.ownsRow_made x #[] 0 (Nat.le_refl _) (by simp) (by simp)
              have hc1 : ∀ j u, ((o.take k).map Value.string)[j]? = some u → (x.alloc (.cells #[] 9)).cell? ((⟨g, 0, none⟩ : Addr).add j) = some u := by
                intro j u hu
                rw [Addr.add_lit, Nat.zero_add]
                refine Cells.alloc _ _ _ _ (own_cell Hrx.out ?_)
                have hjk : j < k := by have := (List.getElem?_eq_some_iff.1 hu).1; simp at this; omega
                rw [List.getElem?_map] at hu ⊢
                rwa [List.getElem?_take_of_lt hjk] at hu
              have hone : ∀ (l : List ByteArray), ∀ v ∈ l.map Value.string, v.oneCell' = true := by
                intro l v hv
                obtain ⟨t, _, rfl⟩ := List.mem_map.1 hv
                rfl
              have hkl : ((o.take k).map Value.string).length = k * 1 := by simp; omega
              have Hmade := Lib.hid hmade
              have Hc1 := Lib.hid hc1
              have Hone := Lib.hid hone
              have Hkl := Lib.hid hkl
              clear hmade hc1 hone hkl
              go_wp2_with (first | (at_builtin; refine wpList_append_own _ rfl _ _ 41 rfl x.heap.size 9 i0 (.string ⟨#[]⟩) 1 16 Try.underlying41 hi0 hz0 hz1 hz2 rfl (by omega) (.slice (some ⟨x.heap.size, 0, none⟩) 0 0) 0 [] rfl Hmade.out ⟨g, 0, none⟩ k cv ((o.take k).map Value.string) rfl Hkl.out Hc1.out (Hone.out _) (by simp [maxLen]; omega) (by omega) (by simp) ?_))
              intro v1 y hown1 hgrow1 _
              obtain ⟨A1, cap1, rfl, _, _, _, _⟩ := own_form hown1
              have hby : Below x.heap.size x y := ((Below.refl x.heap.size x).alloc (Nat.le_refl _) _).grown hgrow1 (by simp) (by intro k' hk'; cases hk'; exact Nat.le_refl _)
              have g4 := Cells.of_below hby _ _ g3
              have hry := own_keep Hrx.out fun g' c' hg' => (hby.block g' (lt_of_heap hg')).trans hg'
              have hxy := hby.size
              have hown1 : y.ownsRow x.heap.size 9 1 (.slice A1 k cap1) k ((o.take k).map Value.string) := by simpa using hown1
              have Hry := Lib.hid hry
              have Hby := Lib.hid hby
              have Hown1 := Lib.hid hown1
              clear hby hry g3 Hmade Hc1 hown1 hgrow1
              have hownZ : ∀ o', (y.alloc o').ownsRow x.heap.size 9 1 (.slice A1 k cap1) k ((o.take k).map Value.string) := fun o' => own_keep Hown1.out fun g' c' hg' => (Below.heap_alloc y o' g' (lt_of_heap hg')).trans hg'
              have hnw : ∀ j v, [Value.string s][j]? = some v → (y.alloc (.cells #[.string s] 9)).cell? ((⟨y.heap.size, 0, none⟩ : Addr).add j) = some v := fun j v hv => World.news_of_block (w := y.alloc _) (heap_alloc_new y _) j v hv
              have hone1 : ∀ v ∈ [Value.string s], v.oneCell' = true := fun v hv => Hone.out [s] v (by simpa using hv)
              have HownZ := Lib.hid hownZ
              have Hnw := Lib.hid hnw
              have Hone1 := Lib.hid hone1
              clear hownZ hnw hone1
              go_wp2_with (first | (at_builtin; refine wpList_append_lies _ rfl _ _ 41 rfl x.heap.size 9 i0 (.string ⟨#[]⟩) 1 16 Try.underlying41 hi0 hz0 hz1 hz2 rfl (by omega) (.slice A1 k cap1) k ((o.take k).map Value.string) rfl (HownZ.out _) ⟨y.heap.size, 0, none⟩ 1 1 [.string s] rfl rfl Hnw.out Hone1.out (by omega) (by simp [maxLen]; omega) (by omega) (by simp; omega) (y.heap.size + 1) (by simp) ?_))
              intro g9 cap2 z hown2 hgrow2 _ _
              have hbz : Below x.heap.size x z := (Hby.out.alloc hxy (.cells #[.string s] 9)).grown hgrow2 (by simp; omega) (fun k' hk' => (own_blk Hown1.out k' hk').1)
              have hrz := own_keep Hrx.out fun g' c' hg' => (hbz.block g' (lt_of_heap hg')).trans hg'
              have hxz := hbz.size
              have Hrz := Lib.hid hrz
              have Hbz := Lib.hid hbz
              have hown2 : z.ownsRow x.heap.size 9 1 (.slice (some ⟨g9, 0, none⟩) (k + 1) cap2) (k + 1) ((o.take k).map Value.string ++ [.string s]) := by simpa using hown2
              have Hown2 := Lib.hid hown2
              clear hrz hbz hown2 hgrow2 Hry Hown1 HownZ Hnw Hone1 Hby g4
              have hc3 : ∀ ad : Addr, (ad = ⟨g, k, none⟩ ∨ o.length ≤ k) → ∀ j u, ((o.drop k).map Value.string)[j]? = some u → z.cell? (ad.add j) = some u := by
                intro ad hor j u hu
                rw [List.getElem?_map, List.getElem?_drop] at hu
                rcases hor with rfl | hor
                · rw [Addr.add_lit]
                  exact own_cell Hrz.out (by rw [List.getElem?_map]; exact hu)
                · rw [List.getElem?_eq_none (by omega)] at hu
                  simp at hu
              have hdl : ((o.drop k).map Value.string).length = (o.length - k) * 1 := by simp
              have Hc3 := Lib.hid hc3
              have Hdl := Lib.hid hdl
              clear hc3 hdl
              go_wp2_with (first | (at_builtin; refine wpList_append_own _ rfl _ _ 41 rfl x.heap.size 9 i0 (.string ⟨#[]⟩) 1 16 Try.underlying41 hi0 hz0 hz1 hz2 rfl (by omega) (.slice (some ⟨g9, 0, none⟩) (k + 1) cap2) (k + 1) ((o.take k).map Value.string ++ [.string s]) rfl Hown2.out _ (o.length - k) _ ((o.drop k).map Value.string) rfl Hdl.out (Hc3.out _ (by first | exact .inl rfl | exact .inr (by omega))) (Hone.out _) (by simp [maxLen]; omega) (by omega) (by omega) ?_))
              intro v3 x3 hown3 hgrow3 _
              obtain ⟨A3, cap3, rfl, _, _, _, _⟩ := own_form hown3
              have hb3 : Below x.heap.size x x3 := Hbz.out.grown hgrow3 hxz (fun k' hk' => (own_blk Hown2.out k' hk').1)
              have hown3 : x3.ownsRow x.heap.size 9 1 (.slice A3 (k + 1 + (o.length - k)) cap3) (k + 1 + (o.length - k)) ((o.take k).map Value.string ++ [.string s] ++ (o.drop k).map Value.string) := by simpa using hown3
              have Hown3 := Lib.hid hown3
              have Hb3 := Lib.hid hb3
              clear hown3 hgrow3 hb3 Hone
              go_wp2_with fail
              go_roundw
              case rel =>
                have e1 : k + 1 + (o.length - k) = (o.take k ++ [s] ++ o.drop k).length := by simp; omega
                have e2 : (o.take k).map Value.string ++ [.string s] ++ (o.drop k).map Value.string = (o.take k ++ [s] ++ o.drop k).map Value.string := by simp
                refine ⟨i + 1, o.take k ++ [s] ++ o.drop k, by omega, by go_num, by rw [← e1]; omega, ?_, ?_, HBx.out.trans (Hb3.out.mono hwx)⟩
                · rw [take_snoc Hs.out]
                  exact Hins.out
                · rw [← e2, ← e1]
                  exact own_base Hown3.out hwx
              case measure => simp [intOf]; omega
    · go_wp2_with fail
      go_ret
      exact ⟨_, o, rfl, by have := Hris.out; rwa [List.take_of_length_le (by omega)] at this, Hrow.out, HB.out⟩
end Go.Proofs.Ytpblaclhfcomeaa
