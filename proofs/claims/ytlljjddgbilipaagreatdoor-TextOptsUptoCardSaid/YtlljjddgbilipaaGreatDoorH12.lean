/-
  What is laid reads as the library's variables; the row's words.
  The laws' arguments, laid open: what a slice of bytes reads as; the wrap that hands the walk both what is laid and the world's shape.
  Options handed in, laid open.
-/
import Derived.Test.YtlljjddgbilipaaGreatDoorTxLw
import Derived.Test.YtlljjddgbilipaaGreatDoorRows
import Derived.Stop.LaidErr
import Derived.Lib.LaidTab
import Derived.MakeChecks
import Derived.LaidMore
import Derived.Deep.Slices
import Derived.ChangeSlices
import Derived.ChangeArms
import Derived.HandedShaped
import Derived.Test.YtlljjddgbilipaaGreatDoorTxOpm
namespace Go.Proofs.YtlljjddgbilipaaGreatDoor
open Go.RowKit Go.Lib

theorem gPow : Tryz.prog.globalNamed "internal/strconv.uint64pow10" = some 2 := by kernel_rfl
theorem gPowT : (Tryz.prog.globals[2]?).map (·.type) = some 150 := by kernel_rfl
theorem gSyn : Tryz.prog.globalNamed "strconv.ErrSyntax" = some 0 := by kernel_rfl
theorem gSynT : (Tryz.prog.globals[0]?).map (·.type) = some 101 := by kernel_rfl
theorem gRng : Tryz.prog.globalNamed "strconv.ErrRange" = some 1 := by kernel_rfl
theorem gRngT : (Tryz.prog.globals[1]?).map (·.type) = some 101 := by kernel_rfl
theorem cells64 : Tryz.prog.cellsOf 135 = 1 := by kernel_rfl
theorem cellsPow : Tryz.prog.cellsOf 150 = 20 := by kernel_rfl
theorem cellsErr : Tryz.prog.cellsOf 167 = 1 := by kernel_rfl
theorem cellsStr : Tryz.prog.cellsOf 9 = 1 := by kernel_rfl
theorem starErr : "*" ++ "errors.errorString" = "*errors.errorString" := by decide
theorem rowErr (u : TypeId) (h : Tryz.prog.typeName? 3 u = some "*errors.errorString") : u = 165 :=
  typeName_ptr_named (nm := "errors.errorString") (by rw [starErr]; kernel_rfl) (by kernel_rfl) (by decide) u (by rw [starErr]; exact h)
theorem lw_of_laid {w : World} (h : laidMetH Tryz.prog Rows.textOptsUptoRow.laid w) : Lw w := by
  rw [MakeChecks.laidMetH_plain _ _ _ (by kernel_rfl)] at h
  have h' : laidMet Tryz.prog [("math/bits.deBruijn32tab", Rows.laid_math_bits_deBruijn32tab), ("math/bits.deBruijn64tab", Rows.laid_math_bits_deBruijn64tab), ("internal/strconv.uint64pow10", Rows.laid_internal_strconv_uint64pow10), ("unicode/utf8.acceptRanges", Rows.laid_unicode_utf8_acceptRanges), ("strconv.ErrRange", Rows.laid_strconv_ErrRange), ("strconv.ErrSyntax", Rows.laid_strconv_ErrSyntax), ("unicode/utf8.first", Rows.laid_unicode_utf8_first)] w := h
  refine ⟨tabIs_of_head (zs := pow10Tab) gPow gPowT Tryz.underlying150 Tryz.underlying135 cells64 cellsPow h'.tail.tail, ?_, ?_⟩
  · obtain ⟨a, s, hv, _⟩ := laid_sentinel h'.tail.tail.tail.tail.tail gSyn gSynT Tryz.underlying101 rowErr Tryz.underlying165 Tryz.underlying167 rfl rfl Tryz.underlying9 cellsErr cellsStr
    exact ⟨_, _, hv⟩
  · obtain ⟨a, s, hv, _⟩ := laid_sentinel h'.tail.tail.tail.tail gRng gRngT Tryz.underlying101 rowErr Tryz.underlying165 Tryz.underlying167 rfl rfl Tryz.underlying9 cellsErr cellsStr
    exact ⟨_, _, hv⟩
end Go.Proofs.YtlljjddgbilipaaGreatDoor
namespace Go.Proofs.YtlljjddgbilipaaGreatDoor
open Go.RowKit Go.ChangeShapes Go.WideShapes Go.Deep

theorem add_flat (b o i : Nat) : (⟨b, o, none⟩ : Addr).add i = ⟨b, o + i, none⟩ := by
  unfold Addr.add
  by_cases h : i = 0 <;> simp [h]
/-- an address at which a cell can be read is a flat one -/
theorem flat {w : World} {a : Addr} {v : Value} (h : w.cell? (a.add 0) = some v) : ∃ b o, a = ⟨b, o, none⟩ := by
  obtain ⟨b, o, s⟩ := a
  cases s with
  | none => exact ⟨b, o, rfl⟩
  | some s =>
    have hs : (⟨b, o, some s⟩ : Addr).add 0 = ⟨b, o, some s⟩ := by simp [Addr.add]
    rw [hs] at h
    unfold World.cell? at h
    split at h
    · simp at h
    · cases h
section
variable {H : Type} {enc : TypeId × Value → H} {W : World} {base : Nat} {spare : Nat → Bool} {held : Bool}

theorem cellsU8 : Tryz.prog.cellsOf 5 = 1 := by kernel_rfl
theorem bytes_of {n : Nat} {v : Value} {y : DataW H × List MemPlace} (h : DataW.trod enc Tryz.prog W base spare held n 30 [v] = some y) :
    ∃ A l cap, v = .slice A l.length cap ∧ Bs W A cap l := by
  rcases open_ints Tryz.underlying30 Tryz.underlying5 cellsU8 h with ⟨hv, hy⟩ | ⟨a, len, cap, zs, hv, _, hl, hm, hz, hy, hcell, hwf⟩
  · simp only [List.cons.injEq, and_true] at hv
    exact ⟨none, [], 0, hv, Bs.none_ W⟩
  · simp only [List.cons.injEq, and_true] at hv
    have hzl : len ≤ zs.length := by rw [hz]; split <;> omega
    have hlen : ((zs.take len).map fun z => UInt8.ofNat z.toNat).length = len := by simp; omega
    refine ⟨some a, (zs.take len).map fun z => UInt8.ofNat z.toNat, cap, by rw [hlen]; exact hv, ⟨by simp [u8s], by simp, by rw [hlen]; exact hl, hm, fun hp => ?_⟩⟩
    rw [hlen] at hp
    obtain ⟨b, o, rfl⟩ := flat (hcell 0 (by omega))
    refine ⟨b, o, rfl, fun j hj => ?_⟩
    rw [hlen] at hj
    have hj' : j < len := by omega
    have hc := hcell j (by omega)
    rw [add_flat] at hc
    rw [hc, u8s_at (by rw [hlen]; omega)]
    have hw := hwf (zs.getD j 0) (by
      rw [List.getD_eq_getElem?_getD, List.getElem?_eq_getElem (by omega)]
      simp)
    have hr : 0 ≤ zs.getD j 0 ∧ zs.getD j 0 ≤ 255 := by simpa [Lit.wf, IntKind.min, IntKind.max, IntKind.signed, IntKind.bits] using hw
    congr 2
    rw [List.getD_eq_getElem?_getD (l := List.map _ _), List.getElem?_map, List.getElem?_take_of_lt hj', List.getElem?_eq_getElem (show j < zs.length by omega)]
    rw [List.getD_eq_getElem?_getD, List.getElem?_eq_getElem (show j < zs.length by omega)] at hr ⊢
    simp at hr ⊢
    omega
end
section
variable {H : Type} {enc : TypeId × Value → H} {P : Program}
/-- the last step of a row whose call leaves all that was there as it was -/
theorem post_below {f : Func} {s : ChangeSpec} {apart fresh handsOn again : Bool} {W W' : World} {args : Array Value} {v : Value} {ds gs : List (DataW H)} {before pa pv : List MemPlace}
    (hW : DataW.Whole enc P f.params.toList s.vars apart W args.toList ds gs before)
    (hres : ∀ (b : Nat) (sp : Nat → Bool) (hd : Bool), DataW.TrodAll enc P W' b sp hd f.resultTypes.toList (v.resultList f.resultTypes.size) (s.fn H (ds ++ gs)).results [])
    (hargs : ∀ sp : Nat → Bool, (∀ p ∈ before, sp p.block = true) → DataW.TrodAll enc P W' 0 sp true f.params.toList args.toList (s.fn H (ds ++ gs)).args pa)
    (hvars : ∀ sp : Nat → Bool, (∀ p ∈ before, sp p.block = true) → DataW.TrodVars enc P W' sp s.vars (s.fn H (ds ++ gs)).vars pv)
    (hps : before = pa ++ pv) (hb : Below W.heap.size W W')
    (hok : ∀ (j : Nat) (t : TypeId) (r : Value), f.resultTypes[j]? = some t → (v.resultList f.resultTypes.size)[j]? = some r → Value.okWide P W' .any 0 t r) :
    s.post enc P f apart fresh handsOn again W args v W' := by
  have hold : ∀ p ∈ before, (fun b => decide (b < W.heap.size)) p.block = true := fun p hp => by simpa using hW.lt p hp
  refine ⟨ds, gs, before, [], pa, pv, hW, hres _ _ _, hargs _ hold, hvars _ hold, World.keptBut_mono (fun p hp => ⟨hp, Or.inr (by rw [hps] at hp; simpa using hp)⟩) (hb.frame (· ∈ before)), fun _ => ?_⟩
  obtain ⟨_, _, _, _, _, hz, hn⟩ := id hW
  refine ⟨hok, _, _, ([] ++ pa) ++ pv, ⟨[] ++ pa, pv, trodAll_append (hargs _ (fun _ _ => rfl)) (hres _ _ _), hvars _ (fun _ _ => rfl), rfl, ?_, ?_⟩, ?_⟩
  · intro b off hp
    have hin : MemPlace.cell b off ∈ before := by rw [hps]; simpa using hp
    rw [hb.frozen (hW.lt _ hin)]
    exact hz b off hin
  · intro ha
    have := hn ha
    rw [hps] at this
    simpa using this
  · intro p hp _
    rw [hps]
    simpa using hp
end
theorem bulk_pos {H : Type} (d : DataW H) : 1 ≤ Rows.uptoBulk d := by
  cases d with
  | lit l => cases l <;> simp [Rows.uptoBulk]
  | _ => simp [Rows.uptoBulk]
theorem bulk_len {H : Type} : ∀ l : List (DataW H), l.length ≤ Rows.uptoBulkAll l
  | [] => by simp
  | x :: r => by have := bulk_len r; have := bulk_pos x; simp only [Rows.uptoBulkAll, List.length_cons]; omega
theorem bulk_slice {H : Type} (e s : List (DataW H)) : Rows.uptoBulk (.slice e s) = Rows.uptoBulkAll e + Rows.uptoBulkAll s + 1 := by simp only [Rows.uptoBulk]
theorem bulk_agg {H : Type} (e : List (DataW H)) : Rows.uptoBulk (.agg e) = Rows.uptoBulkAll e + 1 := by simp only [Rows.uptoBulk]
theorem bulk_str {H : Type} (b : List UInt8) : Rows.uptoBulk (DataW.lit (H := H) (.string b)) = b.length + 1 := by simp [Rows.uptoBulk]
theorem bulk_sum {H : Type} : ∀ l : List (DataW H), Rows.uptoBulkAll l = (l.map Rows.uptoBulk).sum
  | [] => by simp [Rows.uptoBulkAll]
  | x :: r => by simp only [Rows.uptoBulkAll, List.map_cons, List.sum_cons]; rw [bulk_sum r]
theorem mem_le_sum {x : Nat} : ∀ {l : List Nat}, x ∈ l → x ≤ l.sum
  | y :: r, h => by
    rw [List.sum_cons]
    rcases List.mem_cons.1 h with rfl | h
    · omega
    · have := mem_le_sum h; omega
section
variable {H : Type} {enc : TypeId × Value → H} {W : World} {base : Nat} {spare : Nat → Bool} {held : Bool}

theorem bytes_bulk {n : Nat} {v : Value} {y : DataW H × List MemPlace} (h : DataW.trod enc Tryz.prog W base spare held n 30 [v] = some y) :
    ∃ A l cap, v = .slice A l.length cap ∧ Bs W A cap l ∧ l.length + 1 ≤ Rows.uptoBulk y.1 := by
  obtain ⟨A, l, cap, hv, hb⟩ := bytes_of h
  refine ⟨A, l, cap, hv, hb, ?_⟩
  rcases open_ints Tryz.underlying30 Tryz.underlying5 cellsU8 h with ⟨hv2, hy⟩ | ⟨a, len, cap2, zs, hv2, _, hl, hm, hz, hy, hcell, hwf⟩
  · simp only [List.cons.injEq, and_true] at hv2
    rw [hv] at hv2
    simp only [Value.slice.injEq] at hv2
    have := bulk_pos y.1
    omega
  · simp only [List.cons.injEq, and_true] at hv2
    rw [hv] at hv2
    simp only [Value.slice.injEq] at hv2
    have hzl : len ≤ zs.length := by rw [hz]; split <;> omega
    rw [hy]
    show l.length + 1 ≤ Rows.uptoBulk (DataW.slice (lits .u8 (zs.take len)) (lits .u8 (zs.drop len)))
    rw [bulk_slice]
    have h1 := bulk_len (H := H) (lits .u8 (zs.take len))
    have h2 : (lits (H := H) .u8 (zs.take len)).length = len := by simp [lits]; omega
    omega
end
end Go.Proofs.YtlljjddgbilipaaGreatDoor
namespace Go.Proofs.YtlljjddgbilipaaGreatDoor
open Go.RowKit Go.ChangeShapes Go.WideShapes Go.Deep

theorem list_of {α : Type} {Q : Nat → α → Prop} : ∀ n : Nat, (∀ i, i < n → ∃ p, Q i p) → ∃ ps : List α, ps.length = n ∧ ∀ i p, ps[i]? = some p → Q i p
  | 0, _ => ⟨[], rfl, by simp⟩
  | n + 1, h => by
    obtain ⟨ps, hl, hq⟩ := list_of n fun i hi => h i (by omega)
    obtain ⟨p, hp⟩ := h n (by omega)
    refine ⟨ps ++ [p], by simp [hl], fun i q hi => ?_⟩
    by_cases hlt : i < ps.length
    · rw [List.getElem?_append_left hlt] at hi
      exact hq i q hi
    · rw [List.getElem?_append_right (by omega)] at hi
      have h0 : i = n := by
        have := (List.getElem?_eq_some_iff.1 hi).1
        simp at this
        omega
      subst h0
      simp [hl] at hi
      subst hi
      exact hp
theorem len2 {α : Type} : ∀ {l : List α}, l.length = 2 → ∃ x0 x1, l = [x0, x1]
  | [x0, x1], _ => ⟨x0, x1, rfl⟩
theorem len3 {α : Type} : ∀ {l : List α}, l.length = 3 → ∃ x0 x1 x2, l = [x0, x1, x2]
  | [x0, x1, x2], _ => ⟨x0, x1, x2, rfl⟩
theorem len5 {α : Type} : ∀ {l : List α}, l.length = 5 → ∃ x0 x1 x2 x3 x4, l = [x0, x1, x2, x3, x4]
  | [x0, x1, x2, x3, x4], _ => ⟨x0, x1, x2, x3, x4, rfl⟩
theorem len6 {α : Type} : ∀ {l : List α}, l.length = 6 → ∃ x0 x1 x2 x3 x4 x5, l = [x0, x1, x2, x3, x4, x5]
  | [x0, x1, x2, x3, x4, x5], _ => ⟨x0, x1, x2, x3, x4, x5, rfl⟩
theorem len13 {α : Type} : ∀ {l : List α}, l.length = 13 → ∃ x0 x1 x2 x3 x4 x5 x6 x7 x8 x9 x10 x11 x12, l = [x0, x1, x2, x3, x4, x5, x6, x7, x8, x9, x10, x11, x12]
  | [x0, x1, x2, x3, x4, x5, x6, x7, x8, x9, x10, x11, x12], _ => ⟨x0, x1, x2, x3, x4, x5, x6, x7, x8, x9, x10, x11, x12, rfl⟩
theorem cellsOpts : Tryz.prog.cellsOf 32 = 13 := by kernel_rfl
theorem cellsTool : Tryz.prog.cellsOf 29 = 9 := by kernel_rfl
theorem cellsProxy : Tryz.prog.cellsOf 24 = 3 := by kernel_rfl
theorem cellsKey : Tryz.prog.cellsOf 27 = 2 := by kernel_rfl
theorem cellsInt : Tryz.prog.cellsOf 3 = 1 := by kernel_rfl
theorem cellsBool : Tryz.prog.cellsOf 4 = 1 := by kernel_rfl
theorem cellsBytes : Tryz.prog.cellsOf 30 = 1 := by kernel_rfl
theorem cellsInts : Tryz.prog.cellsOf 22 = 1 := by kernel_rfl
theorem cellsTexts : Tryz.prog.cellsOf 25 = 1 := by kernel_rfl
section
variable {H : Type} {enc : TypeId × Value → H} {W : World} {base : Nat} {spare : Nat → Bool} {held : Bool}
theorem slice1_of {α : Type} {E : TypeId} {t : TypeId} (ht : Tryz.prog.underlying t = some (.slice E)) (hc : Tryz.prog.cellsOf E = 1) (val : α → Value) (ok : α → Nat → Prop)
    (hone : ∀ (n : Nat) (v : Value) (y : DataW H × List MemPlace), DataW.trod enc Tryz.prog W base spare held n E [v] = some y → ∃ p, v = val p ∧ ok p (Rows.uptoBulk y.1)) {n : Nat} {v : Value} {x : DataW H × List MemPlace} (h : DataW.trod enc Tryz.prog W base spare held n t [v] = some x) :
    ∃ (A : Option Addr) (T : List α) (cap : Nat), v = .slice A T.length cap ∧ Sl W A cap T.length 1 (T.map val) ∧ T.length ≤ Rows.uptoBulk x.1 ∧ ∀ p ∈ T, ∃ m, m ≤ Rows.uptoBulk x.1 ∧ ok p m := by
  rcases open_slice1 ht hc h with ⟨hv, hy⟩ | ⟨a, len, cap, m, n', V, D, Pl, hv, _, hl, hm, hmm, hx, hi⟩
  · simp only [List.cons.injEq, and_true] at hv
    exact ⟨none, [], 0, hv, ⟨rfl, by simp, by simp, by unfold maxLen; omega, by simp⟩, by simp, by simp⟩
  · simp only [List.cons.injEq, and_true] at hv
    have hlm : len ≤ m := by rw [hmm]; split <;> omega
    have hbx : ∀ i, i < len → Rows.uptoBulk (D i) ≤ Rows.uptoBulk x.1 := fun i hil => by
      rw [hx]
      show _ ≤ Rows.uptoBulk (DataW.slice _ _)
      rw [bulk_slice, bulk_sum]
      have := mem_le_sum (x := Rows.uptoBulk (D i)) (l := ((List.range len).map D).map Rows.uptoBulk) (List.mem_map.2 ⟨D i, List.mem_map.2 ⟨i, List.mem_range.2 hil, rfl⟩, rfl⟩)
      omega
    have hlx : len ≤ Rows.uptoBulk x.1 := by
      rw [hx]
      show _ ≤ Rows.uptoBulk (DataW.slice _ _)
      rw [bulk_slice]
      have := bulk_len ((List.range len).map D)
      rw [List.length_map, List.length_range] at this
      omega
    have key : ∀ i, i < len → ∃ p : α, W.cell? (a.add i) = some (val p) ∧ ∃ m, m ≤ Rows.uptoBulk x.1 ∧ ok p m := by
      intro i hil
      obtain ⟨hc, ht⟩ := hi i (by omega)
      obtain ⟨p, hp, hok⟩ := hone _ _ _ ht
      exact ⟨p, by rw [hc, hp], _, hbx i hil, hok⟩
    obtain ⟨T, hTl, hq⟩ := list_of len key
    refine ⟨some a, T, cap, by rw [hTl]; exact hv, ⟨by simp, by simp, by omega, hm, fun hp => ?_⟩, by rw [hTl]; exact hlx, ?_⟩
    · obtain ⟨p0, hp0⟩ : ∃ p0, T[0]? = some p0 := ⟨_, List.getElem?_eq_getElem hp⟩
      obtain ⟨b, o, rfl⟩ := flat (hq 0 p0 hp0).1
      refine ⟨b, o, rfl, fun j hj => ?_⟩
      have hj' : j < T.length := by omega
      have hc := (hq j _ (List.getElem?_eq_getElem hj')).1
      rw [add_flat] at hc
      rw [hc]
      simp [hj']
    · intro p hp
      obtain ⟨i, hi⟩ := List.getElem?_of_mem hp
      exact (hq i p hi).2
theorem texts_of {n : Nat} {v : Value} {x : DataW H × List MemPlace} (h : DataW.trod enc Tryz.prog W base spare held n 25 [v] = some x) :
    ∃ (A : Option Addr) (T : List ByteArray) (cap : Nat), v = .slice A T.length cap ∧ Sl W A cap T.length 1 (txs T) ∧ T.length ≤ Rows.uptoBulk x.1 ∧ ∀ p ∈ T, p.size ≤ Rows.uptoBulk x.1 := by
  obtain ⟨A, T, cap, h1, h2, h3, h4⟩ := slice1_of Tryz.underlying25 cellsStr Value.string (fun p m => p.size ≤ m) (fun n v y hy => by
    obtain ⟨s, hs, hy0, hsz⟩ := DataW.trod_string Tryz.underlying9 hy
    simp only [List.cons.injEq, and_true] at hs
    refine ⟨s, hs, ?_⟩
    rw [hy0]
    simp only [bulk_str]
    have h2 := toL_len s
    simp only [toL] at h2
    omega) h
  refine ⟨A, T, cap, h1, h2, h3, fun p hp => ?_⟩
  obtain ⟨m, hm, hk⟩ := h4 p hp
  omega
theorem ints_of {n : Nat} {v : Value} {x : DataW H × List MemPlace} (h : DataW.trod enc Tryz.prog W base spare held n 22 [v] = some x) :
    ∃ (A : Option Addr) (T : List Int) (cap : Nat), v = .slice A T.length cap ∧ Sl W A cap T.length 1 (iV T) ∧ T.length ≤ Rows.uptoBulk x.1 ∧ ∀ p ∈ T, In64 p := by
  obtain ⟨A, T, cap, h1, h2, h3, h4⟩ := slice1_of Tryz.underlying22 cellsInt (fun n : Int => Value.int .i64 n) (fun p _ => In64 p) (fun n v y hy => by
    obtain ⟨z, hz, _, wz⟩ := DataW.trod_int Tryz.underlying3 hy
    simp only [List.cons.injEq, and_true] at hz
    refine ⟨z, hz, ?_⟩
    have r : -9223372036854775808 ≤ z ∧ z ≤ 9223372036854775807 := by simpa [Lit.wf, IntKind.min, IntKind.max, IntKind.signed, IntKind.bits] using wz
    exact r) h
  exact ⟨A, T, cap, h1, h2, h3, fun p hp => (h4 p hp).choose_spec.2⟩
theorem opts_of {v : Value} {d : DataW H} {ps : List MemPlace} (h : DataW.Trod enc Tryz.prog W base spare held 32 v d ps) (hb : Rows.uptoBulk d ≤ 1048576) :
    ∃ (V : Array Value) (o : OptD), v = .agg V ∧ OpBox W V o ∧ OptOk o := by
  obtain ⟨fuel, h⟩ := h
  obtain ⟨xs, n2, _, hD, hcl, hxl, hf⟩ := DataW.trod_struct Tryz.underlying32 h
  rw [cellsOpts] at hcl
  have hv : v = .agg v.cells.toList.toArray := by
    cases v <;> first | (simp [Value.cells] at hcl; done) | simp [Value.cells]
  generalize v.cells.toList = cs at *
  subst hv
  have hDi : d = .agg (xs.map (·.1)) := by simpa using congrArg Prod.fst hD
  obtain ⟨e0, e1, e2, e3, e4, e5, e6, e7, e8, e9, e10, e11, e12, rfl⟩ := len13 hcl
  obtain ⟨y0, y1, y2, y3, y4, rfl⟩ := len5 hxl
  rw [hDi, bulk_agg, bulk_sum] at hb
  simp only [List.map_cons, List.map_nil, List.sum_cons, List.sum_nil] at hb
  have f0 := hf 0 _ rfl
  have f1 := hf 1 _ rfl
  have f2 := hf 2 _ rfl
  have f3 := hf 3 _ rfl
  have f4 := hf 4 _ rfl
  simp [cellsStr, cellsBytes, cellsInt, cellsInts, cellsTool] at f0 f1 f2 f3 f4
  obtain ⟨z0, hz0, _, w0⟩ := DataW.trod_int Tryz.underlying3 f0
  obtain ⟨A1, l1, k1, hl1, hs1, hn1, ho1⟩ := ints_of f1
  obtain ⟨s3, hs3, hy3, _⟩ := DataW.trod_string Tryz.underlying9 f3
  obtain ⟨A4, l4, k4, hl4, hb4, hn4⟩ := bytes_bulk f4
  obtain ⟨xc, nc, _, hDc, _, hxlc, hfc⟩ := DataW.trod_struct Tryz.underlying29 f2
  obtain ⟨g0, g1, g2, g3, g4, g5, rfl⟩ := len6 hxlc
  have u0 := hfc 0 _ rfl
  have u1 := hfc 1 _ rfl
  have u2 := hfc 2 _ rfl
  have u3 := hfc 3 _ rfl
  have u4 := hfc 4 _ rfl
  have u5 := hfc 5 _ rfl
  simp [cellsStr, cellsInt, cellsProxy, cellsTexts, cellsBool, cellsKey] at u0 u1 u2 u3 u4 u5
  obtain ⟨z1, hz1, _, w1⟩ := DataW.trod_int Tryz.underlying3 u0
  obtain ⟨A2, l2, k2, hl2, hs2, hn2, ho2⟩ := texts_of u2
  obtain ⟨sb, hsb, hyb, _⟩ := DataW.trod_string Tryz.underlying9 u3
  obtain ⟨off, hoff, _⟩ := DataW.trod_bool Tryz.underlying4 u4
  obtain ⟨xp, np, _, hDp, _, hxlp, hfp⟩ := DataW.trod_struct Tryz.underlying24 u1
  obtain ⟨p0, p1, p2, rfl⟩ := len3 hxlp
  have v0 := hfp 0 _ rfl
  have v1 := hfp 1 _ rfl
  have v2 := hfp 2 _ rfl
  simp [cellsInt] at v0 v1 v2
  obtain ⟨z2, hz2, _, w2⟩ := DataW.trod_int Tryz.underlying3 v0
  obtain ⟨z3, hz3, _, w3⟩ := DataW.trod_int Tryz.underlying3 v1
  obtain ⟨z4, hz4, _, w4⟩ := DataW.trod_int Tryz.underlying3 v2
  obtain ⟨xk, nk, _, hDk, _, hxlk, hfk⟩ := DataW.trod_struct Tryz.underlying27 u5
  obtain ⟨m0, m1, rfl⟩ := len2 hxlk
  have t0 := hfk 0 _ rfl
  have t1 := hfk 1 _ rfl
  simp [cellsStr] at t0 t1
  obtain ⟨sk, hsk, hyk, _⟩ := DataW.trod_string Tryz.underlying9 t0
  obtain ⟨st, hst, hyt, _⟩ := DataW.trod_string Tryz.underlying9 t1
  simp only [List.cons.injEq, and_true] at hz0 hs3 hz1 hsb hoff hz2 hz3 hz4 hsk hst
  rw [hDc, hy3] at hb
  simp only [bulk_agg, bulk_sum, List.map_cons, List.map_nil, List.sum_cons, List.sum_nil] at hb
  rw [hyb] at hb
  simp only [bulk_str] at hb
  have r : ∀ z : Int, (Lit.int .i64 z).wf = true → In64 z := fun z hz => by
    have h : -9223372036854775808 ≤ z ∧ z ≤ 9223372036854775807 := by simpa [Lit.wf, IntKind.min, IntKind.max, IntKind.signed, IntKind.bits] using hz
    exact h
  refine ⟨_, ⟨z0, z1, z2, z3, z4, off, toL sb, toL s3, l4, l2.map toL, l1⟩, rfl, ⟨A1, A2, A4, k1, k2, k4, l2, sk, st, ?_, hs1, hs2, rfl, hb4⟩, ⟨r _ w0, r _ w1, r _ w2, r _ w3, r _ w4, ?_, ?_, ?_, fun t ht => ?_, ho1, ?_, ?_⟩⟩
  · unfold opV
    simp only [mkS_toL]
    rw [hz0, hl1, hz1, hz2, hz3, hz4, hl2, hsb, hoff, hsk, hst, hs3, hl4]
  · simp only [toL] at hb ⊢; omega
  · simp only [toL] at hb ⊢; omega
  · simp only; omega
  · obtain ⟨p, hp, rfl⟩ := List.mem_map.1 ht
    have := ho2 p hp
    rw [toL_len]
    omega
  · simp only [List.length_map]; omega
  · simp only; omega
end
end Go.Proofs.YtlljjddgbilipaaGreatDoor
