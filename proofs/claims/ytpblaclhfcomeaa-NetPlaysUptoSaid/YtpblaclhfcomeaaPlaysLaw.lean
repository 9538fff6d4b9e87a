/-
  The plain law: the log of the reference against what the network counts.
-/
import Derived.Test.YtpblaclhfcomeaaNSet
namespace Go.Proofs.Ytpblaclhfcomeaa
open Go.RowKit Go.Maps

/-- what holds of a network and the reference's log behind any operations -/
structure Kin (S : NetSt) (log : List ByteArray) : Prop where
  tidy : Tidy S log.length
  cnt : ∀ u, nth S u = cnt log u
  mem : ∀ u, u ∈ S.asked.map (·.1) ↔ u ∈ log
  pnd : (S.pages.map (·.1)).Nodup
  fnd : (S.faults.map (·.1)).Nodup

theorem Kin.ask {S : NetSt} {log : List ByteArray} (h : Kin S log) {u : ByteArray} (hu : u.size ≤ 1048576) : Kin (S.ask u) (log ++ [u]) := by
  refine ⟨?_, fun v => ?_, fun v => ?_, h.pnd, h.fnd⟩
  · rw [List.length_append]
    exact h.tidy.ask hu
  · rw [nth_ask, cnt_append, cnt_one]
    by_cases e : v = u
    · subst e
      simp [h.cnt]
    · rw [if_neg e, if_neg (fun e2 => e e2.symm), h.cnt]
      simp
  · unfold NetSt.ask
    dsimp only
    rw [put_keys, List.mem_append, List.mem_singleton, ← h.mem]
    split
    · rename_i hs
      constructor
      · exact .inl
      · rintro (h1 | rfl)
        · exact h1
        · cases hl : look S.asked v with
          | none => rw [hl] at hs; cases hs
          | some n =>
            exact Classical.byContradiction fun hn => by
              rw [(look_none _ _).2 hn] at hl
              cases hl
    · rw [List.mem_append, List.mem_singleton]
theorem Kin.same {S S' : NetSt} {log : List ByteArray} (h : Kin S log) (ha : S'.asked = S.asked) (h1 : (S'.pages.map (·.1)).Nodup) (h2 : (S'.faults.map (·.1)).Nodup) : Kin S' log := by
  refine ⟨⟨?_, ?_, ?_, ?_⟩, fun u => ?_, fun u => ?_, h1, h2⟩
  · rw [ha]; exact h.tidy.once
  · unfold total; rw [ha]; exact h.tidy.sum
  · rw [ha]; exact h.tidy.len
  · rw [ha]; exact h.tidy.keys
  · rw [← h.cnt]
    unfold nth
    rw [ha]
  · rw [ha]
    exact h.mem u
theorem Kin.page {S : NetSt} {log : List ByteArray} (h : Kin S log) (u : ByteArray) (d : List UInt8) : Kin (S.page u d) log := h.same rfl (put_nodup h.pnd) h.fnd
theorem Kin.add {S : NetSt} {log : List ByteArray} (h : Kin S log) (f : PFault) : Kin (S.add f) log := h.same rfl h.pnd (put_nodup h.fnd)

theorem put_len {κ ν : Type} [DecidableEq κ] (m : List (κ × ν)) (x : κ) (y : ν) : (put m x y).length ≤ m.length + 1 := by
  unfold put
  split <;> simp
theorem many_inv {α : Type} {step : NetSt → α → Except Int NetSt} {P : Nat → NetSt → Prop} (hs : ∀ n S a S', P n S → step S a = .ok S' → P (n + 1) S') : ∀ (l : List α) (n : Nat) (S S' : NetSt), P n S → many step S l = .ok S' → P (n + l.length) S'
  | [], n, S, S', h, hm => by
    simp only [many, Except.ok.injEq] at hm
    subst hm
    exact h
  | a :: l, n, S, S', h, hm => by
    simp only [many] at hm
    cases hst : step S a with
    | error c => rw [hst] at hm; cases hm
    | ok S1 =>
      rw [hst] at hm
      have := many_inv hs l (n + 1) S1 S' (hs n S a S1 h hst) hm
      rw [List.length_cons, show n + (l.length + 1) = n + 1 + l.length by omega]
      exact this
def Built (n : Nat) (S : NetSt) : Prop := S.asked = [] ∧ (S.pages.map (·.1)).Nodup ∧ (S.faults.map (·.1)).Nodup ∧ S.pages.length ≤ n ∧ S.faults.length ≤ n
theorem newBuilt {ps : List (ByteArray × List UInt8)} {fs : List PFault} {S : NetSt} (h : newSt ps fs = .ok S) : Built (ps.length + fs.length) S := by
  unfold newSt at h
  cases hp : many addPage emptySt ps with
  | error c => rw [hp] at h; cases h
  | ok S1 =>
    rw [hp] at h
    have h1 : Built (0 + ps.length) S1 := many_inv (P := Built) (fun n S a S' hb hst => by
      unfold addPage at hst
      split at hst
      · cases hst
      · split at hst
        · cases hst
        · simp only [Except.ok.injEq] at hst
          subst hst
          have := put_len S.pages a.1 a.2
          exact ⟨hb.1, put_nodup hb.2.1, hb.2.2.1, by have := hb.2.2.2.1; simp only; omega, by have := hb.2.2.2.2; simp only; omega⟩) ps 0 emptySt S1 ⟨rfl, by simp [emptySt], by simp [emptySt], by simp [emptySt], by simp [emptySt]⟩ hp
    rw [Nat.zero_add] at h1
    exact many_inv (P := Built) (fun n S f S' hb hst => by
      obtain ⟨rfl, _⟩ := add_ok hst
      have := put_len S.faults (f.u, f.att) f
      unfold NetSt.add
      exact ⟨hb.1, hb.2.1, put_nodup hb.2.2.1, by have := hb.2.2.2.1; simp only; omega, by have := hb.2.2.2.2; simp only; omega⟩) fs ps.length S1 S h1 h
theorem newKin {ps : List (ByteArray × List UInt8)} {fs : List PFault} {S : NetSt} (h : newSt ps fs = .ok S) : Kin S [] := by
  obtain ⟨h1, h2, h3, _⟩ := newBuilt h
  refine ⟨newTidy h, fun u => ?_, fun u => ?_, h2, h3⟩
  · unfold nth
    rw [h1]
    rfl
  · rw [h1]
    simp
theorem NetAt.kinds {w : World} {nb pb fb ab : Nat} {s : Int} {S : NetSt} (h : NetAt w nb pb fb ab s S) : ∀ f ∈ S.faults, 1 ≤ f.2.kind ∧ f.2.kind ≤ 7 ∧ 0 ≤ f.2.n ∧ f.2.n ≤ 9223372036854775807 := by
  obtain ⟨o, _, es, c, _, _, ha, _⟩ := h.faults
  intro f hf
  obtain ⟨i, hi⟩ := List.getElem?_of_mem hf
  obtain ⟨e, _, _, hr⟩ := ha.at_ hi
  obtain ⟨_, q1, q2, q3, q4, _⟩ := hr
  exact ⟨q3, q4, q1, q2⟩

theorem sorted_eq {α : Type} {R : α → α → Prop} (asy : ∀ a b, R a b → R b a → False) : ∀ (l m : List α), l.Pairwise R → m.Pairwise R → (∀ x, x ∈ l ↔ x ∈ m) → l = m
  | [], [], _, _, _ => rfl
  | [], b :: m, _, _, h => by have := (h b).2 (by simp); simp at this
  | a :: l, [], _, _, h => by have := (h a).1 (by simp); simp at this
  | a :: l, b :: m, hl, hm, h => by
    obtain ⟨l1, l2⟩ := List.pairwise_cons.1 hl
    obtain ⟨m1, m2⟩ := List.pairwise_cons.1 hm
    have hab : a = b := by
      rcases List.mem_cons.1 ((h a).1 (by simp)) with e | e
      · exact e
      · rcases List.mem_cons.1 ((h b).2 (by simp)) with e2 | e2
        · exact e2.symm
        · exact (asy _ _ (m1 a e) (l1 b e2)).elim
    subst hab
    rw [sorted_eq asy l m l2 m2 fun x => ⟨fun hx => ?_, fun hx => ?_⟩]
    · rcases List.mem_cons.1 ((h x).1 (by simp [hx])) with e | e
      · subst e; exact (asy _ _ (l1 x hx) (l1 x hx)).elim
      · exact e
    · rcases List.mem_cons.1 ((h x).2 (by simp [hx])) with e | e
      · subst e; exact (asy _ _ (m1 x hx) (m1 x hx)).elim
      · exact e
theorem strB_data (l : List UInt8) : (strB l).data.toList = l := by simp [strB]
theorem strB_of (u : ByteArray) : strB u.data.toList = u := by simp [strB]
theorem texts_same {S : NetSt} {log : List ByteArray} (hk : Kin S log) {ss : List (List UInt8)} (hp : ss.Perm (names S)) (hs : ss.Pairwise (fun x y => x ≤ y)) {o : List ByteArray} (hr : Rises log o) : ss.map strB = o := by
  refine sorted_eq (R := ltS) (fun a b h1 h2 => absurd (List.lt_trans h1 h2) (List.lt_irrefl _)) _ _ ?_ hr.1 fun x => ?_
  · have hnd : (names S).Nodup := by
      unfold names
      have := hk.tidy.once
      rw [show (S.asked.map fun p => p.1.data.toList) = (S.asked.map (·.1)).map fun u => u.data.toList by rw [List.map_map]; rfl]
      refine List.Pairwise.map _ ?_ this
      intro a b hab e
      exact hab (by rw [← strB_of a, ← strB_of b, e])
    have hnd2 : ss.Nodup := hp.nodup_iff.2 hnd
    rw [List.pairwise_map]
    refine (hs.and hnd2).imp fun {a b} h => ?_
    show (strB a).data.toList < (strB b).data.toList
    rw [strB_data, strB_data]
    rcases h with ⟨h1, h2⟩
    exact List.not_le.1 fun h3 => h2 (List.le_antisymm h1 h3)
  · rw [hr.2, ← hk.mem]
    constructor
    · intro hx
      obtain ⟨l, hl, rfl⟩ := List.mem_map.1 hx
      have := hp.mem_iff.1 hl
      unfold names at this
      obtain ⟨p, hpm, rfl⟩ := List.mem_map.1 this
      rw [strB_of]
      exact List.mem_map.2 ⟨p, hpm, rfl⟩
    · intro hx
      obtain ⟨p, hpm, rfl⟩ := List.mem_map.1 hx
      exact List.mem_map.2 ⟨p.1.data.toList, hp.mem_iff.2 (List.mem_map.2 ⟨p, hpm, rfl⟩), strB_of _⟩
end Go.Proofs.Ytpblaclhfcomeaa
