/-
  The laws' arguments, laid open: what a slice of bytes reads as; the wrap that hands the walk both what is laid and the world's shape.
-/
import Derived.Test.YtbmnbhammganfaaDoorTxLaid
import Derived.Test.YtbmnbhammganfaaDoorRows
import Derived.Deep.Slices
import Derived.ChangeSlices
import Derived.ChangeArms
import Derived.HandedShaped
namespace Go.Proofs.YtbmnbhammganfaaDoor
open Go.RowKit Go.ChangeShapes Go.WideShapes Go.Deep

theorem add_flat (b o i : Nat) : (⟨b, o, none⟩ : Addr).add i = ⟨b, o + i, none⟩ := by
  unfold Addr.add
  by_cases h : i = 0 <;> simp [h]
/-- an address at which a cell can be read is a flat one -/
theorem flat {w : World} {a : Addr} {v : Value} (h : w.cell? (a.add 0) = some v) : ∃ b o, a = ⟨b, o, none⟩ := by
  obtain ⟨b, o, s⟩ := a
  cases s with
  | none => exact ⟨b, o, rfl⟩
  | some s =>
    have hs : (⟨b, o, some s⟩ : Addr).add 0 = ⟨b, o, some s⟩ := by simp [Addr.add]
    rw [hs] at h
    unfold World.cell? at h
    split at h
    · simp at h
    · cases h
section
variable {H : Type} {enc : TypeId × Value → H} {W : World} {base : Nat} {spare : Nat → Bool} {held : Bool}

theorem cellsU8 : Tryd.prog.cellsOf 5 = 1 := by kernel_rfl
theorem bytes_of {n : Nat} {v : Value} {y : DataW H × List MemPlace} (h : DataW.trod enc Tryd.prog W base spare held n 24 [v] = some y) :
    ∃ A l cap, v = .slice A l.length cap ∧ Bs W A cap l := by
  rcases open_ints Tryd.underlying24 Tryd.underlying5 cellsU8 h with ⟨hv, hy⟩ | ⟨a, len, cap, zs, hv, _, hl, hm, hz, hy, hcell, hwf⟩
  · simp only [List.cons.injEq, and_true] at hv
    exact ⟨none, [], 0, hv, Bs.none_ W⟩
  · simp only [List.cons.injEq, and_true] at hv
    have hzl : len ≤ zs.length := by rw [hz]; split <;> omega
    have hlen : ((zs.take len).map fun z => UInt8.ofNat z.toNat).length = len := by simp; omega
    refine ⟨some a, (zs.take len).map fun z => UInt8.ofNat z.toNat, cap, by rw [hlen]; exact hv, ⟨by simp [u8s], by simp, by rw [hlen]; exact hl, hm, fun hp => ?_⟩⟩
    rw [hlen] at hp
    obtain ⟨b, o, rfl⟩ := flat (hcell 0 (by omega))
    refine ⟨b, o, rfl, fun j hj => ?_⟩
    rw [hlen] at hj
    have hj' : j < len := by omega
    have hc := hcell j (by omega)
    rw [add_flat] at hc
    rw [hc, u8s_at (by rw [hlen]; omega)]
    have hw := hwf (zs.getD j 0) (by
      rw [List.getD_eq_getElem?_getD, List.getElem?_eq_getElem (by omega)]
      simp)
    have hr : 0 ≤ zs.getD j 0 ∧ zs.getD j 0 ≤ 255 := by simpa [Lit.wf, IntKind.min, IntKind.max, IntKind.signed, IntKind.bits] using hw
    congr 2
    rw [List.getD_eq_getElem?_getD (l := List.map _ _), List.getElem?_map, List.getElem?_take_of_lt hj', List.getElem?_eq_getElem (show j < zs.length by omega)]
    rw [List.getD_eq_getElem?_getD, List.getElem?_eq_getElem (show j < zs.length by omega)] at hr ⊢
    simp at hr ⊢
    omega
end
section
variable {H : Type} {enc : TypeId × Value → H} {P : Program}
/-- the last step of a row whose call leaves all that was there as it was -/
theorem post_below {f : Func} {s : ChangeSpec} {apart fresh handsOn again : Bool} {W W' : World} {args : Array Value} {v : Value} {ds gs : List (DataW H)} {before pa pv : List MemPlace}
    (hW : DataW.Whole enc P f.params.toList s.vars apart W args.toList ds gs before)
    (hres : ∀ (b : Nat) (sp : Nat → Bool) (hd : Bool), DataW.TrodAll enc P W' b sp hd f.resultTypes.toList (v.resultList f.resultTypes.size) (s.fn H (ds ++ gs)).results [])
    (hargs : ∀ sp : Nat → Bool, (∀ p ∈ before, sp p.block = true) → DataW.TrodAll enc P W' 0 sp true f.params.toList args.toList (s.fn H (ds ++ gs)).args pa)
    (hvars : ∀ sp : Nat → Bool, (∀ p ∈ before, sp p.block = true) → DataW.TrodVars enc P W' sp s.vars (s.fn H (ds ++ gs)).vars pv)
    (hps : before = pa ++ pv) (hb : Below W.heap.size W W')
    (hok : ∀ (j : Nat) (t : TypeId) (r : Value), f.resultTypes[j]? = some t → (v.resultList f.resultTypes.size)[j]? = some r → Value.okWide P W' .any 0 t r) :
    s.post enc P f apart fresh handsOn again W args v W' := by
  have hold : ∀ p ∈ before, (fun b => decide (b < W.heap.size)) p.block = true := fun p hp => by simpa using hW.lt p hp
  refine ⟨ds, gs, before, [], pa, pv, hW, hres _ _ _, hargs _ hold, hvars _ hold, World.keptBut_mono (fun p hp => ⟨hp, Or.inr (by rw [hps] at hp; simpa using hp)⟩) (hb.frame (· ∈ before)), fun _ => ?_⟩
  obtain ⟨_, _, _, _, _, hz, hn⟩ := id hW
  refine ⟨hok, _, _, ([] ++ pa) ++ pv, ⟨[] ++ pa, pv, trodAll_append (hargs _ (fun _ _ => rfl)) (hres _ _ _), hvars _ (fun _ _ => rfl), rfl, ?_, ?_⟩, ?_⟩
  · intro b off hp
    have hin : MemPlace.cell b off ∈ before := by rw [hps]; simpa using hp
    rw [hb.frozen (hW.lt _ hin)]
    exact hz b off hin
  · intro ha
    have := hn ha
    rw [hps] at this
    simpa using this
  · intro p hp _
    rw [hps]
    simpa using hp
end
theorem bulk_pos {H : Type} (d : DataW H) : 1 ≤ Rows.uptoBulk d := by
  cases d with
  | lit l => cases l <;> simp [Rows.uptoBulk]
  | _ => simp [Rows.uptoBulk]
theorem bulk_len {H : Type} : ∀ l : List (DataW H), l.length ≤ Rows.uptoBulkAll l
  | [] => by simp
  | x :: r => by have := bulk_len r; have := bulk_pos x; simp only [Rows.uptoBulkAll, List.length_cons]; omega
theorem bulk_slice {H : Type} (e s : List (DataW H)) : Rows.uptoBulk (.slice e s) = Rows.uptoBulkAll e + Rows.uptoBulkAll s + 1 := by simp only [Rows.uptoBulk]
theorem bulk_agg {H : Type} (e : List (DataW H)) : Rows.uptoBulk (.agg e) = Rows.uptoBulkAll e + 1 := by simp only [Rows.uptoBulk]
theorem bulk_str {H : Type} (b : List UInt8) : Rows.uptoBulk (DataW.lit (H := H) (.string b)) = b.length + 1 := by simp [Rows.uptoBulk]
theorem bulk_sum {H : Type} : ∀ l : List (DataW H), Rows.uptoBulkAll l = (l.map Rows.uptoBulk).sum
  | [] => by simp [Rows.uptoBulkAll]
  | x :: r => by simp only [Rows.uptoBulkAll, List.map_cons, List.sum_cons]; rw [bulk_sum r]
theorem mem_le_sum {x : Nat} : ∀ {l : List Nat}, x ∈ l → x ≤ l.sum
  | y :: r, h => by
    rw [List.sum_cons]
    rcases List.mem_cons.1 h with rfl | h
    · omega
    · have := mem_le_sum h; omega
section
variable {H : Type} {enc : TypeId × Value → H} {W : World} {base : Nat} {spare : Nat → Bool} {held : Bool}

theorem bytes_bulk {n : Nat} {v : Value} {y : DataW H × List MemPlace} (h : DataW.trod enc Tryd.prog W base spare held n 24 [v] = some y) :
    ∃ A l cap, v = .slice A l.length cap ∧ Bs W A cap l ∧ l.length + 1 ≤ Rows.uptoBulk y.1 := by
  obtain ⟨A, l, cap, hv, hb⟩ := bytes_of h
  refine ⟨A, l, cap, hv, hb, ?_⟩
  rcases open_ints Tryd.underlying24 Tryd.underlying5 cellsU8 h with ⟨hv2, hy⟩ | ⟨a, len, cap2, zs, hv2, _, hl, hm, hz, hy, hcell, hwf⟩
  · simp only [List.cons.injEq, and_true] at hv2
    rw [hv] at hv2
    simp only [Value.slice.injEq] at hv2
    have := bulk_pos y.1
    omega
  · simp only [List.cons.injEq, and_true] at hv2
    rw [hv] at hv2
    simp only [Value.slice.injEq] at hv2
    have hzl : len ≤ zs.length := by rw [hz]; split <;> omega
    rw [hy]
    show l.length + 1 ≤ Rows.uptoBulk (DataW.slice (lits .u8 (zs.take len)) (lits .u8 (zs.drop len)))
    rw [bulk_slice]
    have h1 := bulk_len (H := H) (lits .u8 (zs.take len))
    have h2 : (lits (H := H) .u8 (zs.take len)).length = len := by simp [lits]; omega
    omega
end
end Go.Proofs.YtbmnbhammganfaaDoor
