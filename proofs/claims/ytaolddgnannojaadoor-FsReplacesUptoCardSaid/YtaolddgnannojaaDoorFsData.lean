/-
  Bytes laid at the end of a file's bytes; a file that has turned.
-/
import Derived.Test.YtaolddgnannojaaDoorFsInv
import Derived.ArgAppend
import Derived.Laws.AppendOwnNone
namespace Go.Proofs.YtaolddgnannojaaDoor
open Go.RowKit Go.Maps

attribute [local go_sem] lt1 lt2 lt3 lt4 lt5 lt6

def putAll : Array Value → Nat → List Value → Array Value
  | cs, _, [] => cs
  | cs, o, v :: r => putAll (cs.setIfInBounds o v) (o + 1) r
theorem heap_setCells_at {b : Nat} {t : TypeId} : ∀ (vs : List Value) (o : Nat) {w : World} {cs : Array Value}, w.heap[b]? = some (.cells cs t (0, 0)) → (w.setCells b o vs).heap[b]? = some (.cells (putAll cs o vs) t (0, 0))
  | [], _, _, _, h => h
  | v :: r, o, _, _, h => heap_setCells_at r (o + 1) (heap_setCell_at h o v)
theorem putAll_size : ∀ (vs : List Value) (cs : Array Value) (o : Nat), (putAll cs o vs).size = cs.size
  | [], _, _ => rfl
  | v :: r, cs, o => by
    unfold putAll
    rw [putAll_size r]
    simp
theorem set_take (v : Value) : ∀ (l : List Value) (o : Nat), o < l.length → (l.set o v).take (o + 1) = l.take o ++ [v]
  | [], o, h => by simp at h
  | x :: l, 0, _ => by simp
  | x :: l, o + 1, h => by
    have := set_take v l o (by simpa using h)
    simp [this]
theorem putAll_take : ∀ (vs : List Value) (cs : Array Value) (o : Nat), o + vs.length ≤ cs.size → (putAll cs o vs).toList.take (o + vs.length) = cs.toList.take o ++ vs
  | [], cs, o, _ => by simp [putAll]
  | v :: r, cs, o, h => by
    simp only [List.length_cons] at h
    unfold putAll
    have e : o + (v :: r).length = (o + 1) + r.length := by simp only [List.length_cons]; omega
    rw [e, putAll_take r _ _ (by simp; omega)]
    have h2 : (cs.setIfInBounds o v).toList.take (o + 1) = cs.toList.take o ++ [v] := by
      rw [Array.toList_setIfInBounds]
      exact set_take _ _ _ (by simp only [Array.length_toList]; omega)
    rw [h2]
    simp
theorem Fr.setCells {S : List Nat} {b : Nat} (hb : b ∈ S) : ∀ (vs : List Value) (o : Nat) (w : World), Fr S w (w.setCells b o vs)
  | [], _, w => Fr.refl S w
  | v :: r, o, w => (Fr.setCell S w ⟨b, o, none⟩ v hb).trans (Fr.setCells hb r (o + 1) _)
theorem DataAt.cells {w : World} {g : Nat} {d : List UInt8} {cur : Array Value} (hg : w.heap[g]? = some (.cells cur 5 (0, 0))) (ht : cur.toList.take d.length = u8s d) : ∀ j u, (u8s d)[j]? = some u → w.cell? ⟨g, 0 + j, none⟩ = some u := by
  intro j u hj
  have hjl : j < d.length := by
    have := List.getElem?_eq_some_iff.1 hj
    obtain ⟨h, _⟩ := this
    simpa [u8s] using h
  rw [Nat.zero_add, (blk_cells hg).1 j, ← hj, ← ht, List.getElem?_take, if_pos hjl]
  simp
/-- bytes laid at the end -/
theorem append_data {w : World} {ops : Array Oper} {rest : List Oper} {o : Oper} {a : Act} {Q : Exit → Act → World → Prop} (hgd : o.guard = none) (s x : Operand)
    (ho : o.op = .call { callee := .builtin .append, args := #[s, x], argTypes := #[22, 22] }) (v : Value) (d0 : List UInt8) (hs : a.eval s = v) (hv : DataAt w v d0)
    (A : Option Addr) (c : Nat) (d : List UInt8) (hx : a.eval x = .slice A d.length c) (hd : Bs w A c d) (hb : d0.length + d.length ≤ 140737488355328)
    (h : ∀ v' w', DataAt w' v' (d0 ++ d) → Fr v.ownBlock.toList w w' → (v'.ownBlock = v.ownBlock ∨ ∀ b, v'.ownBlock = some b → w.heap.size ≤ b) → wpList Tryd.prog ops Q rest (a.put o.dst v') w') : wpList Tryd.prog ops Q (o :: rest) a w := by
  obtain ⟨i0, hi0, hz0, hz1, hz2⟩ := info_parts infoU8
  cases A with
  | none =>
    obtain ⟨h0, rfl⟩ := hd.nil rfl
    have hdn : d = [] := List.eq_nil_of_length_eq_zero h0
    subst hdn
    have hrun : (Builtin.append_ #[22, 22] o.type #[v, .slice none 0 0]).run Tryd.prog w = .ok v w := by
      rcases hv with ⟨rfl, _⟩ | ⟨g, cap, cur, rfl, _, hnc, _⟩
      · simp [Builtin.append_, run_underlying Tryd.underlying22, sizeOf, typeInfo, hi0, Builtin.lenOf, Builtin.firstCells]
      · simp [Builtin.append_, run_underlying Tryd.underlying22, sizeOf, typeInfo, hi0, Builtin.lenOf, Builtin.firstCells, hnc, storeCells]
    refine wpList_plain hgd fun K hK => ?_
    unfold Oper.wp
    simp only [List.length_nil] at hx
    simp [execOp, ho, resolve, invoke, builtin, hs, hx, hrun, Result.andThen]
    exact hK _ _ (h v w (by simpa using hv) (Fr.refl _ _) (.inl rfl))
  | some ad =>
    have hnews : ∀ j u, (u8s d)[j]? = some u → w.cell? (ad.add j) = some u := fun j u hu => by
      by_cases hdn : d = []
      · subst hdn; simp [u8s] at hu
      obtain ⟨b, of, hab, hc⟩ := hd.cells (List.length_pos_iff.2 hdn)
      cases hab
      have hj := (List.getElem?_eq_some_iff.1 hu).1
      rw [Addr.add_lit]
      exact (hc j (by simpa [u8s] using hj)).trans hu
    have grow : ∀ v' w', w'.ownsRow w.heap.size 5 1 v' (d0.length + d.length) (u8s d0 ++ u8s d) → w.grownBy w' none → wpList Tryd.prog ops Q rest (a.put o.dst v') w' := fun v' w' hown hgr => by
      refine h v' w' ?_ (Fr.of_grown hgr |>.more (by simp)) (.inr fun b hb => ?_)
      · rcases hown.2 with ⟨rfl, he⟩ | ⟨g, cap, cur, rfl, hbg, hg, hnc, hcm, hsz, htk⟩
        · refine .inl ⟨rfl, ?_⟩
          have h1 : (d0 ++ d).length = 0 := by rw [List.length_append]; exact he
          exact List.eq_nil_of_length_eq_zero h1
        · refine .inr ⟨g, cap, cur, by rw [List.length_append], hg, by rw [List.length_append]; exact hnc, hcm, by omega, ?_⟩
          rw [List.length_append]
          rw [Nat.mul_one] at htk
          rw [htk]
          simp [u8s]
      · rcases hown.2 with ⟨rfl, he⟩ | ⟨g, cap, cur, rfl, hbg, hg, hnc, hcm, hsz, htk⟩
        · simp [Value.ownBlock] at hb
        · simp [Value.ownBlock] at hb
          omega
    have hml : d0.length + d.length ≤ maxLen := by unfold maxLen; omega
    rcases hv with ⟨rfl, rfl⟩ | ⟨g, cap, cur, rfl, hg, hnc, hcm, hcs, htk⟩
    · by_cases hdn : d = []
      · subst hdn
        have hrun : (Builtin.append_ #[22, 22] o.type #[.slice none 0 0, .slice (some ad) 0 c]).run Tryd.prog w = .ok (.slice none 0 0) w := by
          have hfc := run_firstCells_some (P := Tryd.prog) w i0.size 0 ad 0 c [] (by simp) (by simp)
          simp [Builtin.append_, run_underlying Tryd.underlying22, sizeOf, typeInfo, hi0, Builtin.lenOf, hfc]
        refine wpList_plain hgd fun K hK => ?_
        unfold Oper.wp
        simp only [List.length_nil] at hx
        simp [execOp, ho, resolve, invoke, builtin, hs, hx, hrun, Result.andThen]
        exact hK _ _ (h _ w (.inl ⟨rfl, rfl⟩) (Fr.refl _ _) (.inl rfl))
      · refine wpList_append_grows w hgd s x 22 ho 5 i0 (.int .u8 0) 1 1 Tryd.underlying22 hi0 hz0 hz1 hz2 rfl (by omega) none 0 0 [] hs (fun _ => ⟨rfl, rfl⟩) rfl (fun b hb => by cases hb) ad d.length c (u8s d) hx (by simp [u8s]) hnews (u8s_one d) (by have := List.length_pos_iff.2 hdn; omega) (by simpa using hml) (by simp at hb; omega) grow
    · refine wpList_append_arg w hgd s x 22 ho 5 i0 (.int .u8 0) 1 1 Tryd.underlying22 hi0 hz0 hz1 hz2 rfl (by omega) g 0 d0.length cap (u8s d0) hs (by simp [u8s]) (DataAt.cells hg htk) ad d.length c (u8s d) hx (by simp [u8s]) hnews (u8s_one d) (fun hr j hj => ?_) hml (by omega) (fun hr => ?_) (fun _ => grow)
      · have hj : j < d.length := by simpa [u8s] using hj
        constructor
        · rw [(blk_cells hg).1 (0 + d0.length * 1 + j)]
          rw [Array.getElem?_eq_getElem (by omega)]
          rfl
        · exact (blk_cells hg).2.1 _
      · have hst := heap_setCells_at (u8s d) (0 + d0.length * 1) hg
        refine h _ _ (.inr ⟨g, cap, _, by rw [List.length_append], hst, by rw [List.length_append]; exact hr, hcm, by rw [putAll_size]; exact hcs, ?_⟩) (Fr.setCells (by simp [Value.ownBlock]) _ _ _) (.inl rfl)
        have ht2 := putAll_take (u8s d) cur (0 + d0.length * 1) (by simp [u8s]; omega)
        have e : (d0 ++ d).length = 0 + d0.length * 1 + (u8s d).length := by simp [u8s]
        rw [e, ht2, Nat.zero_add, Nat.mul_one, htk]
        simp [u8s]
end Go.Proofs.YtaolddgnannojaaDoor
