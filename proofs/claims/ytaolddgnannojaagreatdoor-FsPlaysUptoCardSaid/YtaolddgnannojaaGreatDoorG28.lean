/-
  The reference's rows of names in memory: with, does.
  The reference's change of names (does); fails; Size.
  The reference's file system in memory.
-/
import Derived.Test.YtaolddgnannojaaGreatDoorG27
import Derived.Laws.AppendOwnNone
namespace Go.Proofs.YtaolddgnannojaaGreatDoor
open Go.RowKit Go.Maps

attribute [local go_sem] lt1 lt2 lt3 lt4 lt5 lt6

/-- append of any slice, nil too, to a row of one's own -/
theorem wpList_append_sl {P : Program} {w : World} {ops : Array Oper} {rest : List Oper} {o : Oper} {a : Act} {Q : Exit → Act → World → Prop} (hgd : o.guard = none) (s x : Operand) (t : TypeId)
    (ho : o.op = .call { callee := .builtin .append, args := #[s, x], argTypes := #[t, t] })
    (base : Nat) (e : TypeId) (i : TypeInfo) (z : Value) (size bytes : Nat) (ht : P.underlying t = some (.slice e)) (hi : P.info? e = some i) (hz : i.zero = some z)
    (hsize : i.size = size) (hby : i.bytes = bytes) (hzs : z.cells.size = size) (hsz : 0 < size)
    (v : Value) (n : Nat) (xs : List Value) (hs : a.eval s = v) (hown : w.ownsRow base e size v n xs)
    (A : Option Addr) (m c : Nat) (news : List Value) (hx : a.eval x = .slice A m c) (hsl : Sl w A c m size news) (h1 : ∀ u ∈ news, u.oneCell' = true)
    (h63 : n + m ≤ maxLen) (hbytes : (n + m) * bytes ≤ 140737488355328) (hbase : base ≤ w.heap.size)
    (h : ∀ v' w', w'.ownsRow base e size v' (n + m) (xs ++ news) → w.grownBy w' v.ownBlock → wpList P ops Q rest (a.put o.dst v') w') : wpList P ops Q (o :: rest) a w := by
  cases A with
  | none =>
    obtain ⟨rfl, rfl⟩ := hsl.nil rfl
    have hn : news = [] := List.eq_nil_of_length_eq_zero (by rw [hsl.len]; omega)
    subst hn
    refine wpList_append_own_none hgd s x t ho base e i size ht hi v n xs hs hown hx (h v w ?_ ?_)
    · simpa using hown
    · exact ⟨rfl, rfl, rfl, Nat.le_refl _, fun _ _ _ => rfl⟩
  | some ad =>
    refine wpList_append_own w hgd s x t ho base e i z size bytes ht hi hz hsize hby hzs hsz v n xs hs hown ad m c news hx hsl.len (fun j u hj => ?_) h1 h63 hbytes hbase fun v' w' h2 h3 _ => h v' w' h2 h3
    have hl := (List.getElem?_eq_some_iff.1 hj).1
    rw [hsl.len] at hl
    have hm : 0 < m := by
      rcases Nat.eq_zero_or_pos m with h0 | h0
      · rw [h0] at hl; omega
      · exact h0
    obtain ⟨b, o', hA, hcell⟩ := hsl.cells hm
    cases hA
    rw [Addr.add_lit]
    exact (hcell j hl).trans hj
def cutN (A : Option Addr) (c l : Nat) : Option Addr := if c = l then A else A.map (·.add (l * 2))
theorem slice_loN (A : Option Addr) (n c l : Nat) (h : l ≤ n) (w : World) : (Instr.slice 51 (.slice A n c) (some (.int .i64 (l : Int))) none none).run Tryz.prog w = .ok (.slice (cutN A c l) (n - l) (c - l)) w := by
  have e : Tryz.prog.elem 51 = 104 := by kernel_rfl
  have ht : Tryz.prog.underlying 51 = some (.slice (Tryz.prog.elem 51)) := by rw [e]; exact Tryz.underlying51
  obtain ⟨i0, hi0, hz0, hz1, hz2⟩ := info_parts infoName
  rw [run_slice_l (w := w) (ht := ht) (kl := .i64) (h0 := by omega) (h1 := by omega), e]
  simp [sizeOf, typeInfo, hi0, hz1, sliced, cutN]
theorem slice_hiN (A : Option Addr) (n c l : Nat) (h : l ≤ c) (w : World) : (Instr.slice 51 (.slice A n c) none (some (.int .i64 (l : Int))) none).run Tryz.prog w = .ok (.slice A l c) w := by
  have e : Tryz.prog.elem 51 = 104 := by kernel_rfl
  have ht : Tryz.prog.underlying 51 = some (.slice (Tryz.prog.elem 51)) := by rw [e]; exact Tryz.underlying51
  obtain ⟨i0, hi0, hz0, hz1, hz2⟩ := info_parts infoName
  rw [run_slice_h (w := w) (ht := ht) (kh := .i64) (h0 := by omega) (h2 := by omega), e]
  simp [sizeOf, typeInfo, hi0, hz1, sliced]
  intro _
  cases A with
  | none => rfl
  | some a => simp [Addr.add]
theorem Sl.cutN {w : World} {A : Option Addr} {c n l : Nat} {xs : List Value} (h : Sl w A c n 2 xs) (hl : l ≤ n) : Sl w (cutN A c l) (c - l) (n - l) 2 (xs.drop (l * 2)) := by
  have h1 := h.le
  have h2 := h.big
  refine ⟨by rw [List.length_drop, h.len]; omega, ?_, by omega, by omega, fun hn => ?_⟩
  · intro hA
    unfold Go.Proofs.YtaolddgnannojaaGreatDoor.cutN at hA
    split at hA
    · omega
    · cases A with
      | none => have := h.nil rfl; omega
      | some a => simp at hA
  · obtain ⟨b, o, rfl, hx⟩ := h.cells (by omega)
    refine ⟨b, o + l * 2, ?_, fun j hj => ?_⟩
    · unfold Go.Proofs.YtaolddgnannojaaGreatDoor.cutN
      rw [if_neg (by omega)]
      simp [Addr.add]
    · rw [Nat.add_assoc, hx (l * 2 + j) (by omega), List.getElem?_drop]

theorem Sl.frontN {w : World} {A : Option Addr} {c n l : Nat} {xs : List Value} (h : Sl w A c n 2 xs) (hl : l ≤ n) : Sl w A c l 2 (xs.take (l * 2)) := by
  have h1 := h.le
  refine ⟨by rw [List.length_take, h.len]; omega, fun hA => ?_, by omega, h.big, fun hn => ?_⟩
  · have := h.nil hA
    omega
  · obtain ⟨b, o, rfl, hx⟩ := h.cells (by omega)
    exact ⟨b, o, rfl, fun j hj => by rw [hx j (by omega), List.getElem?_take_of_lt hj]⟩
theorem nCells_take (L : List NRow) : ∀ k, (nCells L).take (k * 2) = nCells (L.take k) := by
  induction L with
  | nil => intro k; simp [nCells]
  | cons p L ih =>
    intro k
    cases k with
    | zero => simp [nCells]
    | succ k =>
      have e : nCells (p :: L) = nCell p ++ nCells L := rfl
      rw [e, List.take_succ_cons]
      have e2 : nCells (p :: L.take k) = nCell p ++ nCells (L.take k) := rfl
      rw [e2, List.take_append, ← ih k]
      have hl : (nCell p).length = 2 := rfl
      rw [hl, List.take_of_length_le (by rw [hl]; omega), show (k + 1) * 2 - 2 = k * 2 by omega]
theorem nCells_drop (L : List NRow) : ∀ k, (nCells L).drop (k * 2) = nCells (L.drop k) := by
  induction L with
  | nil => intro k; simp [nCells]
  | cons p L ih =>
    intro k
    cases k with
    | zero => simp [nCells]
    | succ k =>
      have e : nCells (p :: L) = nCell p ++ nCells L := rfl
      rw [e, List.drop_succ_cons, List.drop_append, ← ih k]
      have hl : (nCell p).length = 2 := rfl
      rw [hl, List.drop_of_length_le (by rw [hl]; omega), show (k + 1) * 2 - 2 = k * 2 by omega]
      rfl
theorem nCells_one (L : List NRow) : ∀ u ∈ nCells L, u.oneCell' = true := by
  intro u hu
  unfold nCells at hu
  obtain ⟨c, hc, hu⟩ := List.mem_flatten.1 hu
  obtain ⟨p, _, rfl⟩ := List.mem_map.1 hc
  exact one_name u hu
theorem NOwn.sl {w : World} {base : Nat} {v : Value} {L : List NRow} (h : NOwn w base v L) : ∃ A c, v = .slice A L.length c ∧ Sl w A c L.length 2 (nCells L) := by
  obtain ⟨A, c, rfl, hn, hA, hnc, hcm⟩ := own_form h
  refine ⟨A, c, rfl, by unfold nCells; rw [flat_len (nCell_len L), List.length_map], fun h => hn h, hnc, hcm, fun hp => ?_⟩
  cases A with
  | none => have := (hn rfl).1; omega
  | some a =>
    obtain ⟨g, rfl⟩ := hA a rfl
    refine ⟨g, 0, rfl, fun j hj => ?_⟩
    have hl : j < (nCells L).length := by unfold nCells; rw [flat_len (nCell_len L), List.length_map]; exact hj
    rw [Nat.zero_add, List.getElem?_eq_getElem hl]
    exact own_cell h (List.getElem?_eq_getElem hl)
/-- how many come ahead of a name -/
def ahead (L : List NRow) (s : ByteArray) : Nat := (L.takeWhile fun p => decide (ltS p.1 s)).length
theorem ahead_le (L : List NRow) (s : ByteArray) : ahead L s ≤ L.length := (List.takeWhile_sublist _).length_le
theorem ahead_take (L : List NRow) (s : ByteArray) : L.take (ahead L s) = L.takeWhile fun p => decide (ltS p.1 s) := by
  have h := List.takeWhile_append_dropWhile (p := fun p : NRow => decide (ltS p.1 s)) (l := L)
  have h2 : (L.takeWhile (fun p => decide (ltS p.1 s)) ++ L.dropWhile (fun p => decide (ltS p.1 s))).take (ahead L s) = L.takeWhile fun p => decide (ltS p.1 s) := List.take_left
  rw [h] at h2
  exact h2
theorem ahead_drop (L : List NRow) (s : ByteArray) : L.drop (ahead L s) = L.dropWhile fun p => decide (ltS p.1 s) := by
  have h := List.takeWhile_append_dropWhile (p := fun p : NRow => decide (ltS p.1 s)) (l := L)
  have h2 : (L.takeWhile (fun p => decide (ltS p.1 s)) ++ L.dropWhile (fun p => decide (ltS p.1 s))).drop (ahead L s) = L.dropWhile fun p => decide (ltS p.1 s) := List.drop_left
  rw [h] at h2
  exact h2
theorem ahead_eq {L : List NRow} {s : ByteArray} : ∀ {k : Nat}, k ≤ L.length → (∀ j, j < k → ltS (L.getD j noN).1 s) → (k < L.length → ¬ ltS (L.getD k noN).1 s) → k = ahead L s := by
  induction L with
  | nil => intro k hk _ _; simp at hk; rw [hk]; rfl
  | cons p L ih =>
    intro k hk h1 h2
    cases k with
    | zero =>
      have := h2 (by simp)
      unfold ahead
      rw [List.takeWhile_cons_of_neg (by simpa using this)]
      rfl
    | succ k =>
      have h0 := h1 0 (by omega)
      have := ih (k := k) (by simpa using hk) (fun j hj => by simpa using h1 (j + 1) (by omega)) (fun hk2 => by simpa using h2 (by simpa using hk2))
      unfold ahead at this ⊢
      rw [List.takeWhile_cons_of_pos (by simpa using h0), List.length_cons, ← this]
theorem withN_cut (L : List NRow) (s : ByteArray) (n : Nat) : withN L s n = (without L s).take (ahead (without L s) s) ++ [(s, n)] ++ (without L s).drop (ahead (without L s) s) := by
  rw [ahead_take, ahead_drop]
  rfl
def WiRel (w : World) (L : List NRow) (s : ByteArray) (iv : Value) (wr : World) : Prop := ∃ k : Nat, k ≤ L.length ∧ iv = .int .i64 k ∧ (∀ j, j < k → ltS (L.getD j noN).1 s) ∧ wr = w
set_option maxHeartbeats 8000000 in
set_option maxRecDepth 100000 in
theorem with_any (w : World) (A : Option Addr) (c : Nat) (L : List NRow) (s : ByteArray) (n : Nat) (h : NAt w A c L) (hL : L.length ≤ 1048576) : Calls Tryz.prog 100 #[.slice A L.length c, .string s, .int .i64 (n : Nat)] w (NPost w (withN L s n)) := by
  obtain ⟨P, hP⟩ : ∃ P, P = NPost w (withN L s n) := ⟨_, rfl⟩
  rw [← hP]
  have HP := Lib.hid hP
  have H := Lib.hid h
  obtain ⟨iF, hiF, hzF, hsF, hbF⟩ := info_parts infoName
  clear hP h
  go_enter Tryz.func100, Tryz.ntmps100
  go_wp2_with fail
  refine (without_any w A c L s H.out hL).mono ?_
  rintro e w1 ⟨v, rfl, hrow, hb1⟩
  have hcut := withN_cut L s n
  have hml : (without L s).length ≤ 1048576 := Nat.le_trans (without_le L s) hL
  generalize without L s = M at *
  obtain ⟨A1, c1, rfl, hsl⟩ := hrow.sl
  obtain ⟨A2, c2, e2, hat⟩ := hrow.rows
  simp only [Value.slice.injEq, true_and] at e2
  obtain ⟨rfl, rfl⟩ := e2
  have Hat := Lib.hid hat
  have Hsl := Lib.hid hsl
  have Hb1 := Lib.hid hb1
  have Hcut := Lib.hid hcut
  have hmle := hsl.le
  clear hrow hb1 hcut hat hsl
  go_wp2_with fail
  go_loopw [7] (fun iv wr => WiRel w1 M s iv wr) (fun iv _ => M.length - (intOf iv).toNat)
  case atStart => exact ⟨0, by omega, rfl, fun j hj => by omega, rfl⟩
  case round =>
    obtain ⟨k, hk, rfl, hr, rfl⟩ := hrel
    have Hr := Lib.hid hr
    clear hr
    have hway : (k < M.length ∧ ltS (M.getD k noN).1 s) ∨ (k < M.length ∧ ¬ ltS (M.getD k noN).1 s) ∨ k = M.length := by
      by_cases h1 : k < M.length
      · by_cases h2 : ltS (M.getD k noN).1 s
        · exact .inl ⟨h1, h2⟩
        · exact .inr (.inl ⟨h1, h2⟩)
      · exact .inr (.inr (by omega))
    rcases hway with ⟨hlt, hs⟩ | hway
    · obtain ⟨b, o, rfl, q0, q1⟩ := Hat.out.at_ hlt
      have hls := less_str (M.getD k noN).1 s
      rw [decide_eq_true hs] at hls
      have Hnx : Hid (∀ j, j < k + 1 → ltS (M.getD j noN).1 s) := Lib.hid fun j hj => by
        by_cases e : j = k
        · rw [e]; exact hs
        · exact Hr.out j (by omega)
      clear hs
      generalize M.getD k noN = p at *
      go_wp2_with fail
      go_roundw
      case rel => exact ⟨k + 1, by omega, by go_num, Hnx.out, rfl⟩
      case measure => simp [intOf]; omega
    · have hk' : k = ahead M s := ahead_eq hk Hr.out fun h1 => by
        rcases hway with ⟨_, h2⟩ | h2
        · exact h2
        · omega
      rw [← hk'] at Hcut
      clear hk' Hr
      obtain ⟨ml, hml2⟩ : ∃ ml, ml = M.length := ⟨_, rfl⟩
      have hsl1 := Hsl.out.frontN hk
      have hsl2 := Hsl.out.cutN hk
      rw [nCells_take] at hsl1
      rw [nCells_drop] at hsl2
      have hl1 := nCells_one (M.take k)
      have hl2 := nCells_one (M.drop k)
      have hc1 := slice_hiN A1 M.length c1 k (by omega)
      have hc2 := slice_loN A1 M.length c1 k hk
      have Hsl1 := Lib.hid hsl1
      have Hsl2 := Lib.hid hsl2
      have Hbs := Lib.hid Hb1.out.size
      clear hsl1 hsl2 Hsl
      have hway2 : ¬ k < ml ∨ (k < ml ∧ ∃ b o p, A1 = some ⟨b, o, none⟩ ∧ wr.cell? ⟨b, o + k * 2, none⟩ = some (.string p) ∧ Op.bytesLess p.toList s.toList = false) := by
        rcases hway with ⟨h1, h2⟩ | h2
        · obtain ⟨b, o, h3, h4, _⟩ := Hat.out.at_ h1
          exact .inr ⟨by omega, b, o, _, h3, h4, by rw [less_str, decide_eq_false h2]⟩
        · exact .inl (by omega)
      rw [← hml2] at hc1 hc2 hk hml hmle Hsl2 ⊢
      have Hml2 := Lib.hid hml2
      clear hway hml2 Hat
      have Hfin : Hid (∀ v7 w7, w7.ownsRow wr.heap.size 104 2 v7 (k + 1 + (ml - k)) (nCells (M.take k) ++ [.string s, .int .i64 (n : Nat)] ++ nCells (M.drop k)) → Below wr.heap.size wr w7 → P (.returned v7) w7) := Lib.hid fun v7 w7 h7 b7 => by
        rw [HP.out]
        refine ⟨v7, rfl, ?_, Hb1.out.trans (b7.mono Hbs.out)⟩
        unfold NOwn
        rw [Hcut.out, nCells_app, nCells_app]
        have e1 : (M.take k ++ [(s, n)] ++ M.drop k).length = k + 1 + (ml - k) := by
          have := Hml2.out
          simp
          omega
        rw [e1]
        exact own_base h7 Hbs.out
      clear Hcut HP H Hb1
      rcases hway2 with hno | ⟨hyes, b, o, p, rfl, q0, hls⟩
      all_goals
        go_wp2_with (first | (at_builtin; refine wpList_append_sl rfl _ _ 51 rfl wr.heap.size 104 iF (.agg #[.string ⟨#[]⟩, .int .i64 0]) 2 24 Tryz.underlying51 hiF hzF hsF hbF rfl (by omega) _ 0 [] rfl (World.ownsRow_made wr #[] 0 (Nat.le_refl _) (by simp) (by simp)) _ k c1 (nCells (M.take k)) rfl (Hsl1.out.keep (Cells.of_below ((Below.refl _ _).alloc (Nat.le_refl _) _))) hl1 (by unfold maxLen; omega) (by omega) (by simp) ?_))
        intro v5 w5 h5 g5
        have b5 : Below wr.heap.size wr w5 := ((Below.refl _ _).alloc (Nat.le_refl _) _).grown g5 (by simp) (by intro k hk; cases hk; exact Nat.le_refl _)
        obtain ⟨A5, c5, hv5⟩ := own_formT h5
        subst hv5
        have H5 := Lib.hid h5
        have B5 := Lib.hid b5
        clear h5 b5 g5
        have hz5 := B5.out.size
        go_wp2_with (first | (at_builtin; refine wpList_append_own_at _ rfl _ _ 51 rfl wr.heap.size 104 iF (.agg #[.string ⟨#[]⟩, .int .i64 0]) 2 24 Tryz.underlying51 hiF hzF hsF hbF rfl (by omega) _ k _ rfl (World.ownsRow.alloc H5.out _) ⟨w5.heap.size, 0, none⟩ 1 1 [.string s, .int .i64 (n : Nat)] rfl rfl (fun j v hv => World.news_of_block (heap_alloc_new _ _) j v hv) one_name (by unfold maxLen; omega) (by omega) (by simp; omega) ?_))
        intro v6 w6 h6 hg6 _ _
        have g6 : w5.grownBy w6 (Value.slice A5 k c5).ownBlock := (World.grownBy_alloc w5 _ _).andThen hg6 (fun j hj => .inr hj)
        have b6 : Below wr.heap.size wr w6 := B5.out.grown g6 B5.out.size fun k hk => (own_blk H5.out k hk).1
        obtain ⟨A6, c6, hv6⟩ := own_formT h6
        subst hv6
        have H6 := Lib.hid h6
        have B6 := Lib.hid b6
        clear h6 hg6 g6 b6 H5 B5 hz5
        have hz6 := B6.out.size
        go_wp2_with (first | (at_builtin; refine wpList_append_sl rfl _ _ 51 rfl wr.heap.size 104 iF (.agg #[.string ⟨#[]⟩, .int .i64 0]) 2 24 Tryz.underlying51 hiF hzF hsF hbF rfl (by omega) _ (k + 1) _ rfl H6.out _ (ml - k) (c1 - k) (nCells (M.drop k)) rfl (Hsl2.out.keep (Cells.of_below B6.out)) hl2 (by unfold maxLen; omega) (by omega) (by omega) ?_))
        intro v7 w7 h7 g7
        have b7 : Below wr.heap.size wr w7 := B6.out.grown g7 B6.out.size fun k hk => (own_blk H6.out k hk).1
        have Hf := Lib.hid (Hfin.out v7 w7 (by simpa using h7) b7)
        clear h7 g7 b7 H6 B6 hz6
        go_wp2_with fail
        exact Hf.out
end Go.Proofs.YtaolddgnannojaaGreatDoor
namespace Go.Proofs.YtaolddgnannojaaGreatDoor
open Go.RowKit Go.Maps

attribute [local go_sem] lt1 lt2 lt3 lt4 lt5 lt6

theorem str_none {s : ByteArray} (h : s.size = 0) : s.toList.isEmpty = true := by
  have : s.toList = [] := by
    rw [toList_toL]
    apply List.eq_nil_of_length_eq_zero
    unfold toL
    simpa using h
  rw [this]
  rfl
theorem str_some {s : ByteArray} (h : s.size ≠ 0) : s.toList.isEmpty = false := by
  rw [List.isEmpty_eq_false_iff]
  intro e
  apply h
  have h2 : (toL s).length = 0 := by rw [← toList_toL, e]; rfl
  unfold toL at h2
  simpa using h2
def chCell (c : RChg) : List Value := [.string c.dir, .string c.off, .string c.on, .int .i64 (c.no : Nat)]
theorem NPost.later {w w1 w' : World} {L : List NRow} {e : Ending} (hb : Below w.heap.size w w1) (h : NPost w1 L e w') : NPost w L e w' := by
  obtain ⟨v, he, ho, hb2⟩ := h
  exact ⟨v, he, own_base ho hb.size, hb.trans (hb2.mono hb.size)⟩
set_option maxHeartbeats 8000000 in
set_option maxRecDepth 100000 in
theorem does_any (w : World) (A : Option Addr) (cap : Nat) (L : List NRow) (c : RChg) (h : NAt w A cap L) (hL : L.length ≤ 1048576) (hc : c.off.size ≠ 0 ∨ c.on.size ≠ 0) :
    Calls Tryz.prog 90 #[.slice A L.length cap, .agg (chCell c).toArray] w (NPost w (does L c)) := by
  obtain ⟨P, hP⟩ : ∃ P, P = NPost w (does L c) := ⟨_, rfl⟩
  rw [← hP]
  have HP := Lib.hid hP
  have HPL : Hid (∀ (w1 : World) (M : List NRow) (e : Ending) (w' : World), M = does L c → Below w.heap.size w w1 → NPost w1 M e w' → P e w') := Lib.hid fun w1 M e w' hM hb hp => by rw [HP.out, ← hM]; exact hp.later hb
  clear hP HP
  obtain ⟨dir, off, on, no⟩ := c
  unfold chCell
  simp only at hc ⊢
  have hb0 : Below w.heap.size w (w.alloc (.cells #[.string dir, .string off, .string on, .int .i64 (no : Nat)] 99)) := (Below.refl _ _).alloc (Nat.le_refl _) _
  have H0 := Lib.hid (h.keep (Cells.of_below hb0))
  have B0 := Lib.hid hb0
  have hnew := heap_alloc_new w (.cells #[.string dir, .string off, .string on, .int .i64 (no : Nat)] 99)
  have q1 : (w.alloc (.cells #[.string dir, .string off, .string on, .int .i64 (no : Nat)] 99)).cell? ⟨w.heap.size, 1, none⟩ = some (.string off) := (blk_cells hnew).1 1
  have q2 : (w.alloc (.cells #[.string dir, .string off, .string on, .int .i64 (no : Nat)] 99)).cell? ⟨w.heap.size, 2, none⟩ = some (.string on) := (blk_cells hnew).1 2
  have q3 : (w.alloc (.cells #[.string dir, .string off, .string on, .int .i64 (no : Nat)] 99)).cell? ⟨w.heap.size, 3, none⟩ = some (.int .i64 (no : Nat)) := (blk_cells hnew).1 3
  clear hnew hb0 h
  by_cases h1 : off.size = 0
  · have h2 : on.size ≠ 0 := by omega
    have e1 := str_none h1
    have e2 := str_some h2
    have hd : withN L on no = does L ⟨dir, off, on, no⟩ := by
      unfold does
      simp only
      rw [if_pos h1, if_neg h2]
    have Hd := Lib.hid hd
    clear hd h1 h2 hc
    go_enter Tryz.func90, Tryz.ntmps90
    go_wp2_with fail
    refine (with_any _ A cap L on no H0.out hL).mono ?_
    intro e w1 hp
    have Hf := Lib.hid (HPL.out _ _ _ _ Hd.out B0.out hp)
    obtain ⟨v, rfl, ho, hb⟩ := hp
    obtain ⟨A1, c1, rfl, _⟩ := NOwn.rows ho
    clear ho hb
    go_wp2_with fail
    exact Hf.out
  · have e1 := str_some h1
    by_cases h2 : on.size = 0
    · have e2 := str_none h2
      have hd : without L off = does L ⟨dir, off, on, no⟩ := by
        unfold does
        simp only
        rw [if_neg h1, if_pos h2]
      have Hd := Lib.hid hd
      clear hd h1 h2 hc
      go_enter Tryz.func90, Tryz.ntmps90
      go_wp2_with fail
      refine (without_any _ A cap L off H0.out hL).mono ?_
      intro e w1 hp
      have Hf := Lib.hid (HPL.out _ _ _ _ Hd.out B0.out hp)
      obtain ⟨v, rfl, ho, hb⟩ := hp
      obtain ⟨A1, c1, rfl, _⟩ := NOwn.rows ho
      have q2 := (Cells.of_below hb) _ _ q2
      clear ho hb
      go_wp2_with fail
      exact Hf.out
    · have e2 := str_some h2
      have hd : withN (without L off) on no = does L ⟨dir, off, on, no⟩ := by
        unfold does
        simp only
        rw [if_neg h1, if_neg h2]
      have Hd := Lib.hid hd
      clear hd h1 h2 hc
      go_enter Tryz.func90, Tryz.ntmps90
      go_wp2_with fail
      refine (without_any _ A cap L off H0.out hL).mono ?_
      rintro e w1 ⟨v, rfl, ho, hb⟩
      obtain ⟨A1, c1, rfl, hat⟩ := NOwn.rows ho
      have H1 := Lib.hid hat
      have B1 := Lib.hid (B0.out.trans (hb.mono B0.out.size))
      have hl1 := Nat.le_trans (without_le L off) hL
      have q2 := (Cells.of_below hb) _ _ q2
      have q3 := (Cells.of_below hb) _ _ q3
      clear ho hb hat
      generalize without L off = M at *
      go_wp2_with fail
      refine (with_any _ A1 c1 M on no H1.out hl1).mono ?_
      intro e w2 hp
      have Hf := Lib.hid (HPL.out _ _ _ _ Hd.out B1.out hp)
      obtain ⟨v, rfl, ho, hb⟩ := hp
      obtain ⟨A1, c1, rfl, _⟩ := NOwn.rows ho
      clear ho hb
      go_wp2_with fail
      exact Hf.out
end Go.Proofs.YtaolddgnannojaaGreatDoor
namespace Go.Proofs.YtaolddgnannojaaGreatDoor
open Go.RowKit Go.Maps

attribute [local go_sem] lt1 lt2 lt3 lt4 lt5 lt6

structure RMem where
  rb : Nat
  nv : Value
  wv : Value
  sv : Value
  pv : Value
  ds : List Value
def RMem.own (M : RMem) : List Nat := M.rb :: (M.nv.ownBlock.toList ++ (M.wv.ownBlock.toList ++ (M.sv.ownBlock.toList ++ (M.pv.ownBlock.toList ++ M.ds.flatMap fun v => v.ownBlock.toList))))
def ndCell (v : Value) (c : FileC) : List Value := [v, .int .i64 (c.sy : Nat)]
def ndCells (ds : List Value) (N : List FileC) : List Value := (List.zipWith ndCell ds N).flatten
def chCells (P : List RChg) : List Value := (P.map chCell).flatten
def rCells (M : RMem) (R : RSt) : Array Value := #[.int .i64 (R.room : Nat), M.nv, M.wv, M.sv, M.pv, .int .i64 (R.done : Nat), .int .i64 (R.armed : Nat), .bool R.out]
structure RAt (w : World) (M : RMem) (R : RSt) : Prop where
  blk : w.heap[M.rb]? = some (.cells (rCells M R) 54 (0, 0))
  nodes : w.ownsRow 0 96 2 M.nv R.nodes.length (ndCells M.ds R.nodes)
  data : All2 (fun v c => DataAt w v (FileC.d c)) M.ds R.nodes
  now : NOwn w 0 M.wv R.now
  safe : NOwn w 0 M.sv R.safe
  pend : w.ownsRow 0 99 4 M.pv R.pend.length (chCells R.pend)
  nodup : M.own.Nodup
theorem RMem.mem_own {M : RMem} {k : Nat} : k ∈ M.own ↔ k = M.rb ∨ M.nv.ownBlock = some k ∨ M.wv.ownBlock = some k ∨ M.sv.ownBlock = some k ∨ M.pv.ownBlock = some k ∨ ∃ v ∈ M.ds, v.ownBlock = some k := by
  unfold RMem.own
  simp only [List.mem_cons, List.mem_append, Option.mem_toList, List.mem_flatMap]
theorem all2_mem {α β : Type} {Q Q' : α → β → Prop} : ∀ {l : List α} {m : List β}, All2 Q l m → (∀ a b, a ∈ l → Q a b → Q' a b) → All2 Q' l m
  | [], [], _, _ => trivial
  | a :: l, b :: m, h, k => ⟨k a b (by simp) h.1, all2_mem h.2 fun x y hx hq => k x y (by simp [hx]) hq⟩
  | [], _ :: _, h, _ => h.elim
  | _ :: _, [], h, _ => h.elim
/-- what others do -/
theorem RAt.apart {w w' : World} {M : RMem} {R : RSt} {F : List Nat} (h : RAt w M R) (hf : Fr F w w') (ho : ∀ k, k ∈ M.own → k ∉ F) : RAt w' M R :=
  ⟨(hf.block _ (lt_of_heap h.blk) (ho _ (RMem.mem_own.2 (.inl rfl)))).trans h.blk, row_kept h.nodes hf fun b hb => ho b (RMem.mem_own.2 (.inr (.inl hb))),
    all2_mem h.data fun v _ hv hd => data_kept hd hf fun b hb => ho b (RMem.mem_own.2 (.inr (.inr (.inr (.inr (.inr ⟨v, hv, hb⟩)))))),
    row_kept h.now hf fun b hb => ho b (RMem.mem_own.2 (.inr (.inr (.inl hb)))), row_kept h.safe hf fun b hb => ho b (RMem.mem_own.2 (.inr (.inr (.inr (.inl hb))))),
    row_kept h.pend hf fun b hb => ho b (RMem.mem_own.2 (.inr (.inr (.inr (.inr (.inl hb)))))), h.nodup⟩
theorem RAt.below {w w' : World} {M : RMem} {R : RSt} (h : RAt w M R) (hb : Below w.heap.size w w') : RAt w' M R := h.apart (F := []) (Fr.of_below hb []) fun _ _ => by simp
theorem RAt.drewN {w : World} {M : RMem} {R : RSt} (h : RAt w M R) (n : Nat) : RAt (w.drewN n) M R := h.below ⟨rfl, rfl, rfl, Nat.le_refl _, fun _ _ => rfl⟩
theorem RAt.cell {w : World} {M : RMem} {R : RSt} (h : RAt w M R) (j : Nat) (v : Value) (hj : (rCells M R)[j]? = some v) : w.cell? ⟨M.rb, j, none⟩ = some v := ((blk_cells h.blk).1 j).trans hj
theorem RAt.lt {w : World} {M : RMem} {R : RSt} (h : RAt w M R) (k : Nat) (hk : k ∈ M.own) : k < w.heap.size := by
  have row : ∀ {e : TypeId} {z : Nat} {v : Value} {n : Nat} {xs : List Value}, w.ownsRow 0 e z v n xs → v.ownBlock = some k → k < w.heap.size := fun h1 h2 => by
    obtain ⟨_, cur, hc⟩ := own_blk h1 k h2
    exact lt_of_heap hc
  rcases RMem.mem_own.1 hk with rfl | h1 | h1 | h1 | h1 | ⟨v, hv, h1⟩
  · exact lt_of_heap h.blk
  · exact row h.nodes h1
  · exact row h.now h1
  · exact row h.safe h1
  · exact row h.pend h1
  · have : ∀ {l : List Value} {m : List FileC}, All2 (fun v c => DataAt w v (FileC.d c)) l m → v ∈ l → k < w.heap.size := by
      intro l
      induction l with
      | nil => intro m _ hv; cases hv
      | cons a l ih =>
        intro m hq hv
        cases m with
        | nil => exact hq.elim
        | cons b m =>
          rcases List.mem_cons.1 hv with e | e
          · rw [← e] at hq
            obtain ⟨cur, hc⟩ := data_blk hq.1 k h1
            exact lt_of_heap hc
          · exact ih hq.2 e
    exact this h.data hv
/-- what has become of it: only its own blocks have turned, new ones are new -/
structure RGr (M : RMem) (w : World) (M' : RMem) (w' : World) : Prop where
  fr : Fr M.own w w'
  new : ∀ k, k ∈ M'.own → k ∈ M.own ∨ w.heap.size ≤ k
  rb : M'.rb = M.rb
theorem RGr.refl (M : RMem) (w : World) : RGr M w M w := ⟨Fr.refl _ _, fun _ h => .inl h, rfl⟩
theorem RGr.of_below {M : RMem} {w w' : World} (h : Below w.heap.size w w') : RGr M w M w' := ⟨Fr.of_below h _, fun _ h => .inl h, rfl⟩
theorem RGr.trans {M M' M'' : RMem} {a b c : World} (h : RGr M a M' b) (k : RGr M' b M'' c) : RGr M a M'' c := by
  refine ⟨⟨k.fr.os.trans h.fr.os, k.fr.tape.trans h.fr.tape, k.fr.output.trans h.fr.output, Nat.le_trans h.fr.size k.fr.size, fun i hi hn => ?_⟩, fun i hi => ?_, k.rb.trans h.rb⟩
  · refine (k.fr.block i (Nat.lt_of_lt_of_le hi h.fr.size) fun hh => ?_).trans (h.fr.block i hi hn)
    rcases h.new i hh with h1 | h1
    · exact hn h1
    · omega
  · rcases k.new i hi with h1 | h1
    · exact h.new i h1
    · exact .inr (Nat.le_trans h.fr.size h1)
/-- its own block has turned: numbers and flags -/
theorem RAt.field {w w' : World} {M : RMem} {R R' : RSt} (h : RAt w M R) (hf : Fr [M.rb] w w') (hb : w'.heap[M.rb]? = some (.cells (rCells M R') 54 (0, 0)))
    (h1 : R'.nodes = R.nodes) (h2 : R'.now = R.now) (h3 : R'.safe = R.safe) (h4 : R'.pend = R.pend) : RAt w' M R' ∧ RGr M w M w' := by
  have hnd := h.nodup
  have ho : ∀ k, k ∈ M.own.tail → k ∉ [M.rb] := fun k hk hh => by
    rw [List.mem_singleton.1 hh] at hk
    exact (List.nodup_cons.1 hnd).1 hk
  have ho2 : ∀ k, (M.nv.ownBlock = some k ∨ M.wv.ownBlock = some k ∨ M.sv.ownBlock = some k ∨ M.pv.ownBlock = some k ∨ ∃ v ∈ M.ds, v.ownBlock = some k) → k ∉ [M.rb] := fun k hk => ho k (by
    unfold RMem.own
    simp only [List.tail_cons, List.mem_append, Option.mem_toList, List.mem_flatMap]
    exact hk)
  refine ⟨⟨hb, by rw [h1]; exact row_kept h.nodes hf fun b hb => ho2 b (.inl hb), by rw [h1]; exact all2_mem h.data fun v _ hv hd => data_kept hd hf fun b hb => ho2 b (.inr (.inr (.inr (.inr ⟨v, hv, hb⟩)))),
    by rw [h2]; exact row_kept h.now hf fun b hb => ho2 b (.inr (.inl hb)), by rw [h3]; exact row_kept h.safe hf fun b hb => ho2 b (.inr (.inr (.inl hb))), by rw [h4]; exact row_kept h.pend hf fun b hb => ho2 b (.inr (.inr (.inr (.inl hb)))), hnd⟩,
    hf.more fun k hk => by rw [List.mem_singleton.1 hk]; exact RMem.mem_own.2 (.inl rfl), fun _ h => .inl h, rfl⟩
end Go.Proofs.YtaolddgnannojaaGreatDoor
