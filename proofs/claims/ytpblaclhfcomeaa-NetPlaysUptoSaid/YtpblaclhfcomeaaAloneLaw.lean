/-
  NetAlone's plain law: what a network remembers after requests; its names; its total.
-/
import Derived.Test.YtpblaclhfcomeaaUrls
import Derived.Test.YtpblaclhfcomeaaHonest
namespace Go.Proofs.Ytpblaclhfcomeaa
open Go.RowKit Go.Maps

/-- what a request gets hangs on the pages, the faults and this name's requests alone -/
theorem ansOf_eq {S S' : NetSt} {u : ByteArray} (h1 : S.pages = S'.pages) (h2 : S.faults = S'.faults) (h3 : nth S u = nth S' u) : ansOf S u = ansOf S' u := by
  unfold ansOf ansBase
  rw [h1, h2, h3]

theorem look_none {κ ν : Type} [DecidableEq κ] : ∀ (m : List (κ × ν)) (x : κ), look m x = none ↔ x ∉ m.map (·.1)
  | [], x => by simp [look]
  | p :: m, x => by
    rw [look]
    split
    · rename_i h; simp [h]
    · rename_i h
      rw [look_none m x]
      simp only [List.map_cons, List.mem_cons, not_or]
      exact ⟨fun hh => ⟨fun e => h e.symm, hh⟩, fun hh => hh.2⟩
theorem put_keys {κ ν : Type} [DecidableEq κ] (m : List (κ × ν)) (x : κ) (y : ν) : (put m x y).map (·.1) = if (look m x).isSome then m.map (·.1) else m.map (·.1) ++ [x] := by
  unfold put
  split
  · rw [List.map_map]
    apply List.map_congr_left
    intro p _
    simp only [Function.comp]
    split
    · rename_i h; exact h.symm
    · rfl
  · simp
theorem put_nodup {κ ν : Type} [DecidableEq κ] {m : List (κ × ν)} {x : κ} {y : ν} (h : (m.map (·.1)).Nodup) : ((put m x y).map (·.1)).Nodup := by
  rw [put_keys]
  split
  · exact h
  · rename_i hn
    have hx : x ∉ m.map (·.1) := (look_none m x).1 (by simpa using hn)
    rw [List.nodup_append]
    exact ⟨h, by simp, fun a ha b hb => by simp at hb; rintro rfl; subst hb; exact hx ha⟩
theorem sum_put : ∀ (m : List (ByteArray × Nat)) (x : ByteArray) (n : Nat), (m.map (·.1)).Nodup → look m x = some n → ((m.map fun p => if p.1 = x then (x, n + 1) else p).map (·.2)).sum = (m.map (·.2)).sum + 1
  | [], x, n, _, h => by simp [look] at h
  | p :: m, x, n, hd, h => by
    simp only [List.map_cons, List.nodup_cons] at hd
    rw [look] at h
    simp only [List.map_cons, List.sum_cons]
    by_cases hp : p.1 = x
    · rw [if_pos hp] at h
      rw [if_pos hp]
      have hn : ∀ q ∈ m, ¬ q.1 = x := fun q hq e => hd.1 (List.mem_map.2 ⟨q, hq, e.trans hp.symm⟩)
      have hm : (m.map fun p => if p.1 = x then (x, n + 1) else p) = m := by
        conv => rhs; rw [← List.map_id m]
        apply List.map_congr_left
        intro q hq
        rw [if_neg (hn q hq)]; rfl
      rw [hm]
      cases h
      simp
      omega
    · rw [if_neg hp] at h
      rw [if_neg hp, sum_put m x n hd.2 h]
      omega

/-- a network's memory of its requests is whole: each name once, i requests in all -/
structure Tidy (S : NetSt) (i : Nat) : Prop where
  once : (S.asked.map (·.1)).Nodup
  sum : total S = i
  len : S.asked.length ≤ i
  keys : ∀ p ∈ S.asked, p.1.size ≤ 1048576
theorem Tidy.ask {S : NetSt} {i : Nat} (h : Tidy S i) {u : ByteArray} (hu : u.size ≤ 1048576) : Tidy (S.ask u) (i + 1) := by
  refine ⟨put_nodup h.once, ?_, ?_, ?_⟩
  · show ((put S.asked u (nth S u + 1)).map (·.2)).sum = i + 1
    have hs : (S.asked.map (·.2)).sum = i := h.sum
    unfold put
    split
    · rename_i hl
      obtain ⟨n, hn⟩ := Option.isSome_iff_exists.1 hl
      have e : nth S u = n := by unfold nth; rw [hn]; rfl
      rw [e, sum_put _ _ _ h.once hn, hs]
    · rename_i hl
      have hn : look S.asked u = none := by simpa using hl
      have e : nth S u = 0 := by unfold nth; rw [hn]; rfl
      rw [e]
      simp [hs]
  · show (put S.asked u (nth S u + 1)).length ≤ i + 1
    have hl := h.len
    unfold put
    split
    · simp; omega
    · simp; omega
  · intro p hp
    have hk : p.1 ∈ (put S.asked u (nth S u + 1)).map (·.1) := List.mem_map.2 ⟨p, hp, rfl⟩
    rw [put_keys] at hk
    have hold : p.1 ∈ S.asked.map (·.1) → p.1.size ≤ 1048576 := fun hh => by
      obtain ⟨q, hq, e⟩ := List.mem_map.1 hh
      rw [← e]
      exact h.keys q hq
    split at hk
    · exact hold hk
    · rcases List.mem_append.1 hk with hk | hk
      · exact hold hk
      · simp at hk; rw [hk]; exact hu

theorem look_of_mem {κ ν : Type} [DecidableEq κ] : ∀ {m : List (κ × ν)}, (m.map (·.1)).Nodup → ∀ p ∈ m, look m p.1 = some p.2
  | [], _, p, hp => by simp at hp
  | q :: m, hd, p, hp => by
    simp only [List.map_cons, List.nodup_cons] at hd
    rw [look]
    rcases List.mem_cons.1 hp with rfl | hp
    · simp
    · rw [if_neg fun e => hd.1 (List.mem_map.2 ⟨p, hp, e.symm⟩)]
      exact look_of_mem hd.2 p hp
def strB (l : List UInt8) : ByteArray := ⟨l.toArray⟩
/-- the sum over the names is the total -/
theorem Tidy.names_sum {S : NetSt} {i : Nat} (h : Tidy S i) {ss : List (List UInt8)} (hp : ss.Perm (names S)) : (ss.map fun l => nth S (strB l)).sum = i := by
  have e1 := (hp.map fun l => nth S (strB l)).sum_nat
  rw [e1, ← h.sum]
  unfold names total
  rw [List.map_map]
  congr 1
  apply List.map_congr_left
  intro p hpm
  have hl := look_of_mem h.once p hpm
  have : strB p.1.data.toList = p.1 := by unfold strB; simp
  simp only [Function.comp]
  rw [this]
  unfold nth
  rw [hl]
  rfl
theorem Tidy.name_le {S : NetSt} {i : Nat} (h : Tidy S i) {ss : List (List UInt8)} (hp : ss.Perm (names S)) : ∀ l ∈ ss, (strB l).size ≤ maxLen := by
  intro l hl
  have := hp.mem_iff.1 hl
  unfold names at this
  obtain ⟨q, hq, rfl⟩ := List.mem_map.1 this
  have e : strB q.1.data.toList = q.1 := by unfold strB; simp
  rw [e]
  have := h.keys q hq
  unfold maxLen
  omega
theorem sum_take_le (f : List UInt8 → Nat) : ∀ (ss : List (List UInt8)) (j : Nat), ((ss.take j).map f).sum ≤ (ss.map f).sum
  | [], j => by simp
  | s :: ss, 0 => by simp
  | s :: ss, j + 1 => by
    have := sum_take_le f ss j
    simp only [List.take_succ_cons, List.map_cons, List.sum_cons]
    omega
theorem newTidy {ps : List (ByteArray × List UInt8)} {fs : List PFault} {S : NetSt} (h : newSt ps fs = .ok S) : Tidy S 0 := by
  have e := (new_pages h).2.2
  exact ⟨by rw [e]; simp, by unfold total; rw [e]; rfl, by rw [e]; simp, by rw [e]; simp⟩
end Go.Proofs.Ytpblaclhfcomeaa
