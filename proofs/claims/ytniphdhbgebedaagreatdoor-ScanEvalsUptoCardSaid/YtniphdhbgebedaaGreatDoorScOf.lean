/-
  The laws' arguments, laid open: bytes, texts, bulk; the row's last step.
-/
import Derived.Test.YtniphdhbgebedaaGreatDoorScAp
import Derived.ProofKit
import Derived.Test.YtniphdhbgebedaaGreatDoorRows
import Derived.Deep.Slices
import Derived.ChangeSlices
import Derived.ChangeArms
import Derived.HandedShaped
import Derived.Shelf.Vars
namespace Go.Proofs.YtniphdhbgebedaaGreatDoor
open Go.RowKit Go.ChangeShapes Go.WideShapes Go.Deep

theorem add_flat (b o i : Nat) : (⟨b, o, none⟩ : Addr).add i = ⟨b, o + i, none⟩ := by
  unfold Addr.add
  by_cases h : i = 0 <;> simp [h]
/-- an address at which a cell can be read is a flat one -/
theorem flat {w : World} {a : Addr} {v : Value} (h : w.cell? (a.add 0) = some v) : ∃ b o, a = ⟨b, o, none⟩ := by
  obtain ⟨b, o, s⟩ := a
  cases s with
  | none => exact ⟨b, o, rfl⟩
  | some s =>
    have hs : (⟨b, o, some s⟩ : Addr).add 0 = ⟨b, o, some s⟩ := by simp [Addr.add]
    rw [hs] at h
    unfold World.cell? at h
    split at h
    · simp at h
    · cases h
section
variable {H : Type} {enc : TypeId × Value → H} {W : World} {base : Nat} {spare : Nat → Bool} {held : Bool}

theorem cellsU8 : Tryz.prog.cellsOf 5 = 1 := by kernel_rfl
theorem bytes_of {n : Nat} {v : Value} {y : DataW H × List MemPlace} (h : DataW.trod enc Tryz.prog W base spare held n 55 [v] = some y) :
    ∃ A l cap, v = .slice A l.length cap ∧ Bs W A cap l := by
  rcases open_ints Tryz.underlying55 Tryz.underlying5 cellsU8 h with ⟨hv, hy⟩ | ⟨a, len, cap, zs, hv, _, hl, hm, hz, hy, hcell, hwf⟩
  · simp only [List.cons.injEq, and_true] at hv
    exact ⟨none, [], 0, hv, Bs.none_ W⟩
  · simp only [List.cons.injEq, and_true] at hv
    have hzl : len ≤ zs.length := by rw [hz]; split <;> omega
    have hlen : ((zs.take len).map fun z => UInt8.ofNat z.toNat).length = len := by simp; omega
    refine ⟨some a, (zs.take len).map fun z => UInt8.ofNat z.toNat, cap, by rw [hlen]; exact hv, ⟨by simp [u8s], by simp, by rw [hlen]; exact hl, hm, fun hp => ?_⟩⟩
    rw [hlen] at hp
    obtain ⟨b, o, rfl⟩ := flat (hcell 0 (by omega))
    refine ⟨b, o, rfl, fun j hj => ?_⟩
    rw [hlen] at hj
    have hj' : j < len := by omega
    have hc := hcell j (by omega)
    rw [add_flat] at hc
    rw [hc, u8s_at (by rw [hlen]; omega)]
    have hw := hwf (zs.getD j 0) (by
      rw [List.getD_eq_getElem?_getD, List.getElem?_eq_getElem (by omega)]
      simp)
    have hr : 0 ≤ zs.getD j 0 ∧ zs.getD j 0 ≤ 255 := by simpa [Lit.wf, IntKind.min, IntKind.max, IntKind.signed, IntKind.bits] using hw
    congr 2
    rw [List.getD_eq_getElem?_getD (l := List.map _ _), List.getElem?_map, List.getElem?_take_of_lt hj', List.getElem?_eq_getElem (show j < zs.length by omega)]
    rw [List.getD_eq_getElem?_getD, List.getElem?_eq_getElem (show j < zs.length by omega)] at hr ⊢
    simp at hr ⊢
    omega
end
section
variable {H : Type} {enc : TypeId × Value → H} {P : Program}
/-- the last step of a row whose call leaves all that was there as it was -/
theorem post_below {f : Func} {s : ChangeSpec} {apart fresh handsOn again : Bool} {W W' : World} {args : Array Value} {v : Value} {ds gs : List (DataW H)} {before pa pv : List MemPlace}
    (hW : DataW.Whole enc P f.params.toList s.vars apart W args.toList ds gs before)
    (hres : ∀ (b : Nat) (sp : Nat → Bool) (hd : Bool), DataW.TrodAll enc P W' b sp hd f.resultTypes.toList (v.resultList f.resultTypes.size) (s.fn H (ds ++ gs)).results [])
    (hargs : ∀ sp : Nat → Bool, (∀ p ∈ before, sp p.block = true) → DataW.TrodAll enc P W' 0 sp true f.params.toList args.toList (s.fn H (ds ++ gs)).args pa)
    (hvars : ∀ sp : Nat → Bool, (∀ p ∈ before, sp p.block = true) → DataW.TrodVars enc P W' sp s.vars (s.fn H (ds ++ gs)).vars pv)
    (hps : before = pa ++ pv) (hb : Below W.heap.size W W')
    (hok : ∀ (j : Nat) (t : TypeId) (r : Value), f.resultTypes[j]? = some t → (v.resultList f.resultTypes.size)[j]? = some r → Value.okWide P W' .any 0 t r) :
    s.post enc P f apart fresh handsOn again W args v W' := by
  have hold : ∀ p ∈ before, (fun b => decide (b < W.heap.size)) p.block = true := fun p hp => by simpa using hW.lt p hp
  refine ⟨ds, gs, before, [], pa, pv, hW, hres _ _ _, hargs _ hold, hvars _ hold, World.keptBut_mono (fun p hp => ⟨hp, Or.inr (by rw [hps] at hp; simpa using hp)⟩) (hb.frame (· ∈ before)), fun _ => ?_⟩
  obtain ⟨_, _, _, _, _, hz, hn⟩ := id hW
  refine ⟨hok, _, _, ([] ++ pa) ++ pv, ⟨[] ++ pa, pv, trodAll_append (hargs _ (fun _ _ => rfl)) (hres _ _ _), hvars _ (fun _ _ => rfl), rfl, ?_, ?_⟩, ?_⟩
  · intro b off hp
    have hin : MemPlace.cell b off ∈ before := by rw [hps]; simpa using hp
    rw [hb.frozen (hW.lt _ hin)]
    exact hz b off hin
  · intro ha
    have := hn ha
    rw [hps] at this
    simpa using this
  · intro p hp _
    rw [hps]
    simpa using hp
end
theorem bulk_pos {H : Type} (d : DataW H) : 1 ≤ Rows.uptoBulk d := by
  cases d with
  | lit l => cases l <;> simp [Rows.uptoBulk]
  | _ => simp [Rows.uptoBulk]
theorem bulk_len {H : Type} : ∀ l : List (DataW H), l.length ≤ Rows.uptoBulkAll l
  | [] => by simp
  | x :: r => by have := bulk_len r; have := bulk_pos x; simp only [Rows.uptoBulkAll, List.length_cons]; omega
theorem bulk_slice {H : Type} (e s : List (DataW H)) : Rows.uptoBulk (.slice e s) = Rows.uptoBulkAll e + Rows.uptoBulkAll s + 1 := by simp only [Rows.uptoBulk]
theorem bulk_agg {H : Type} (e : List (DataW H)) : Rows.uptoBulk (.agg e) = Rows.uptoBulkAll e + 1 := by simp only [Rows.uptoBulk]
theorem bulk_str {H : Type} (b : List UInt8) : Rows.uptoBulk (DataW.lit (H := H) (.string b)) = b.length + 1 := by simp [Rows.uptoBulk]
theorem bulk_sum {H : Type} : ∀ l : List (DataW H), Rows.uptoBulkAll l = (l.map Rows.uptoBulk).sum
  | [] => by simp [Rows.uptoBulkAll]
  | x :: r => by simp only [Rows.uptoBulkAll, List.map_cons, List.sum_cons]; rw [bulk_sum r]
theorem mem_le_sum {x : Nat} : ∀ {l : List Nat}, x ∈ l → x ≤ l.sum
  | y :: r, h => by
    rw [List.sum_cons]
    rcases List.mem_cons.1 h with rfl | h
    · omega
    · have := mem_le_sum h; omega
section
variable {H : Type} {enc : TypeId × Value → H} {W : World} {base : Nat} {spare : Nat → Bool} {held : Bool}

theorem bytes_bulk {n : Nat} {v : Value} {y : DataW H × List MemPlace} (h : DataW.trod enc Tryz.prog W base spare held n 55 [v] = some y) :
    ∃ A l cap, v = .slice A l.length cap ∧ Bs W A cap l ∧ l.length + 1 ≤ Rows.uptoBulk y.1 := by
  obtain ⟨A, l, cap, hv, hb⟩ := bytes_of h
  refine ⟨A, l, cap, hv, hb, ?_⟩
  rcases open_ints Tryz.underlying55 Tryz.underlying5 cellsU8 h with ⟨hv2, hy⟩ | ⟨a, len, cap2, zs, hv2, _, hl, hm, hz, hy, hcell, hwf⟩
  · simp only [List.cons.injEq, and_true] at hv2
    rw [hv] at hv2
    simp only [Value.slice.injEq] at hv2
    have := bulk_pos y.1
    omega
  · simp only [List.cons.injEq, and_true] at hv2
    rw [hv] at hv2
    simp only [Value.slice.injEq] at hv2
    have hzl : len ≤ zs.length := by rw [hz]; split <;> omega
    rw [hy]
    show l.length + 1 ≤ Rows.uptoBulk (DataW.slice (lits .u8 (zs.take len)) (lits .u8 (zs.drop len)))
    rw [bulk_slice]
    have h1 := bulk_len (H := H) (lits .u8 (zs.take len))
    have h2 : (lits (H := H) .u8 (zs.take len)).length = len := by simp [lits]; omega
    omega
end
theorem list_of {α : Type} {Q : Nat → α → Prop} : ∀ n : Nat, (∀ i, i < n → ∃ p, Q i p) → ∃ ps : List α, ps.length = n ∧ ∀ i p, ps[i]? = some p → Q i p
  | 0, _ => ⟨[], rfl, by simp⟩
  | n + 1, h => by
    obtain ⟨ps, hl, hq⟩ := list_of n fun i hi => h i (by omega)
    obtain ⟨p, hp⟩ := h n (by omega)
    refine ⟨ps ++ [p], by simp [hl], fun i q hi => ?_⟩
    by_cases hlt : i < ps.length
    · rw [List.getElem?_append_left hlt] at hi
      exact hq i q hi
    · rw [List.getElem?_append_right (by omega)] at hi
      have h0 : i = n := by
        have := (List.getElem?_eq_some_iff.1 hi).1
        simp at this
        omega
      subst h0
      simp [hl] at hi
      subst hi
      exact hp
theorem cellsStr : Tryz.prog.cellsOf 9 = 1 := by kernel_rfl
theorem glob_of {W : World} (h : W.ShapedOpen Tryz.prog) : Glob W :=
  cell_of_shapedOpen_int (P := Tryz.prog) (g := 0) (t := 3) (zero := #[.int .i64 0]) h (of_decide_eq_true (by kernel_rfl)) (by kernel_rfl) rfl (by kernel_rfl) (by kernel_rfl) Tryz.underlying3
section
variable {H : Type} {enc : TypeId × Value → H} {W : World} {base : Nat} {spare : Nat → Bool} {held : Bool}
theorem slice1_of {α : Type} {E : TypeId} {t : TypeId} (ht : Tryz.prog.underlying t = some (.slice E)) (hc : Tryz.prog.cellsOf E = 1) (val : α → Value) (ok : α → Nat → Prop)
    (hone : ∀ (n : Nat) (v : Value) (y : DataW H × List MemPlace), DataW.trod enc Tryz.prog W base spare held n E [v] = some y → ∃ p, v = val p ∧ ok p (Rows.uptoBulk y.1)) {n : Nat} {v : Value} {x : DataW H × List MemPlace} (h : DataW.trod enc Tryz.prog W base spare held n t [v] = some x) :
    ∃ (A : Option Addr) (T : List α) (cap : Nat), v = .slice A T.length cap ∧ Sl W A cap T.length 1 (T.map val) ∧ T.length ≤ Rows.uptoBulk x.1 ∧ ∀ p ∈ T, ∃ m, m ≤ Rows.uptoBulk x.1 ∧ ok p m := by
  rcases open_slice1 ht hc h with ⟨hv, hy⟩ | ⟨a, len, cap, m, n', V, D, Pl, hv, _, hl, hm, hmm, hx, hi⟩
  · simp only [List.cons.injEq, and_true] at hv
    exact ⟨none, [], 0, hv, ⟨rfl, by simp, by simp, by unfold maxLen; omega, by simp⟩, by simp, by simp⟩
  · simp only [List.cons.injEq, and_true] at hv
    have hlm : len ≤ m := by rw [hmm]; split <;> omega
    have hbx : ∀ i, i < len → Rows.uptoBulk (D i) ≤ Rows.uptoBulk x.1 := fun i hil => by
      rw [hx]
      show _ ≤ Rows.uptoBulk (DataW.slice _ _)
      rw [bulk_slice, bulk_sum]
      have := mem_le_sum (x := Rows.uptoBulk (D i)) (l := ((List.range len).map D).map Rows.uptoBulk) (List.mem_map.2 ⟨D i, List.mem_map.2 ⟨i, List.mem_range.2 hil, rfl⟩, rfl⟩)
      omega
    have hlx : len ≤ Rows.uptoBulk x.1 := by
      rw [hx]
      show _ ≤ Rows.uptoBulk (DataW.slice _ _)
      rw [bulk_slice]
      have := bulk_len ((List.range len).map D)
      rw [List.length_map, List.length_range] at this
      omega
    have key : ∀ i, i < len → ∃ p : α, W.cell? (a.add i) = some (val p) ∧ ∃ m, m ≤ Rows.uptoBulk x.1 ∧ ok p m := by
      intro i hil
      obtain ⟨hc, ht⟩ := hi i (by omega)
      obtain ⟨p, hp, hok⟩ := hone _ _ _ ht
      exact ⟨p, by rw [hc, hp], _, hbx i hil, hok⟩
    obtain ⟨T, hTl, hq⟩ := list_of len key
    refine ⟨some a, T, cap, by rw [hTl]; exact hv, ⟨by simp, by simp, by omega, hm, fun hp => ?_⟩, by rw [hTl]; exact hlx, ?_⟩
    · obtain ⟨p0, hp0⟩ : ∃ p0, T[0]? = some p0 := ⟨_, List.getElem?_eq_getElem hp⟩
      obtain ⟨b, o, rfl⟩ := flat (hq 0 p0 hp0).1
      refine ⟨b, o, rfl, fun j hj => ?_⟩
      have hj' : j < T.length := by omega
      have hc := (hq j _ (List.getElem?_eq_getElem hj')).1
      rw [add_flat] at hc
      rw [hc]
      simp [hj']
    · intro p hp
      obtain ⟨i, hi⟩ := List.getElem?_of_mem hp
      exact (hq i p hi).2
theorem texts_of {n : Nat} {v : Value} {x : DataW H × List MemPlace} (h : DataW.trod enc Tryz.prog W base spare held n 22 [v] = some x) :
    ∃ (A : Option Addr) (T : List ByteArray) (cap : Nat), v = .slice A T.length cap ∧ Sl W A cap T.length 1 (txs T) ∧ T.length ≤ Rows.uptoBulk x.1 ∧ ∀ p ∈ T, p.size ≤ Rows.uptoBulk x.1 := by
  obtain ⟨A, T, cap, h1, h2, h3, h4⟩ := slice1_of Tryz.underlying22 cellsStr Value.string (fun p m => p.size ≤ m) (fun n v y hy => by
    obtain ⟨s, hs, hy0, hsz⟩ := DataW.trod_string Tryz.underlying9 hy
    simp only [List.cons.injEq, and_true] at hs
    refine ⟨s, hs, ?_⟩
    rw [hy0]
    simp only [bulk_str]
    have h2 := toL_len s
    simp only [toL] at h2
    omega) h
  refine ⟨A, T, cap, h1, h2, h3, fun p hp => ?_⟩
  obtain ⟨m, hm, hk⟩ := h4 p hp
  omega
end
end Go.Proofs.YtniphdhbgebedaaGreatDoor
