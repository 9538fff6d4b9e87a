/-
  What is packed is read back; what is read, packed again, is the same bytes: plain laws. The package's Pack and H1 of any files.
-/
import Derived.Test.YtdmladdpbdcpjaaDoorArkUnB
import Derived.Test.YtdmladdpbdcpjaaDoorArkLnA
namespace Go.Proofs.YtdmladdpbdcpjaaDoor

theorem names_perm {L l : List Fl} (hp : L.Perm l) : namesErr [] (namesOf L) = 0 ↔ namesErr [] (namesOf l) = 0 := by
  rw [namesErr_zero, namesErr_zero]
  have hn : (namesOf L).Perm (namesOf l) := hp.map _
  have hw : ((namesOf L).map lowN).Perm ((namesOf l).map lowN) := hn.map _
  rw [List.Perm.pairwise_iff (fun h => Ne.symm h) hw]
  constructor
  · rintro ⟨h1, h2⟩
    exact ⟨fun n hx => h1 n (hn.mem_iff.2 hx), h2⟩
  · rintro ⟨h1, h2⟩
    exact ⟨fun n hx => h1 n (hn.mem_iff.1 hx), h2⟩
theorem byName_of {L l : List Fl} (hp : L.Perm l) (hn : namesErr [] (namesOf l) = 0) : byName L = byName l :=
  sorted_unique (names_apart hn) ((byName_perm L).trans hp) (byName_sorted L)
theorem byName_twice {l : List Fl} (hn : namesErr [] (namesOf l) = 0) : byName (byName l) = byName l := byName_of (byName_perm l) hn
theorem byName_single (p : Fl) : byName [p] = [p] := by simp [byName, insN, posN]
theorem names_size {l : List Fl} (hn : namesErr [] (namesOf l) = 0) : ∀ p ∈ l, p.1.size ≤ 200 := fun p hp => by
  obtain ⟨h1, _⟩ := (namesErr_zero _ _).1 hn
  have := (h1 (toL p.1) (List.mem_map.2 ⟨p, hp, rfl⟩)).1
  unfold validName at this
  simp only [Bool.and_eq_true, decide_eq_true_eq] at this
  rw [toL_length] at this
  exact this.1.2
theorem checkH_of : ∀ (L : List Fl) (seen : List (List UInt8)), namesErr seen (namesOf L) = 0 → checkH seen (L.map fun p => (p, crcOf p.2)) = 0
  | [], _, _ => rfl
  | p :: L, seen, h => by
    have h' : (if nameErr seen (toL p.1) = 0 then namesErr (seen ++ [lowN (toL p.1)]) (namesOf L) else nameErr seen (toL p.1)) = 0 := h
    split at h'
    · rename_i h0
      rw [List.map_cons, checkH_cons, if_neg (by simpa using h0), if_neg (by simp)]
      exact checkH_of L _ h'
    · rename_i h0
      exact absurd h' h0
theorem locsB_sum (L : List Fl) : sumD L ≤ (locsB L).length ∧ ∀ p ∈ L, p.2.length ≤ (locsB L).length := by
  induction L with
  | nil => simp [sumD, locsB]
  | cons p L ih =>
    have e : (locsB (p :: L)).length = (locB p).length + (locsB L).length := by simp [locsB]
    have e2 : sumD (p :: L) = p.2.length + sumD L := by simp [sumD]
    rw [e, e2, locB_len]
    refine ⟨by omega, fun q hq => ?_⟩
    rcases List.mem_cons.1 hq with rfl | hq
    · omega
    · have := ih.2 q hq; omega
theorem packB_locs (L : List Fl) : (locsB L).length ≤ (packB L).length := by unfold packB; rw [List.length_append, List.length_append]; omega
theorem filesH_of (L : List Fl) : filesH (L.map fun p => (p, crcOf p.2)) = L := by
  unfold filesH
  rw [List.map_map]
  conv => rhs; rw [← List.map_id L]
  rfl
/-- an archive that was made is read, and its files are told -/
theorem unpack_pack {l : List Fl} (hn : namesErr [] (namesOf l) = 0) (hl : l.length ≤ 100) (hs : (packB (byName l)).length ≤ 1048576) : unErr (packB (byName l)) = 0 ∧ unFiles (packB (byName l)) = byName l := by
  have hL : namesErr [] (namesOf (byName l)) = 0 := (names_perm (byName_perm l)).2 hn
  have hrd : readH (packB (byName l)) = some ((byName l).map fun p => (p, crcOf p.2)) := readH_pack _ fun p hp => by
    have h1 := names_size hL p hp
    have h2 := (locsB_sum (byName l)).2 p hp
    have h3 := packB_locs (byName l)
    exact ⟨by omega, by omega⟩
  have h0 : unErr (packB (byName l)) = 0 := by
    unfold unErr
    rw [if_neg (by omega), hrd]
    dsimp only
    rw [if_neg (by rw [List.length_map, byName_length]; omega), checkH_of _ _ hL, if_neg (by simp), filesH_of, byName_twice hn, if_pos rfl]
  refine ⟨h0, ?_⟩
  unfold unFiles
  rw [if_pos h0, hrd]
  dsimp only
  rw [filesH_of, byName_twice hn]
/-- what is read, packed again, is the same -/
theorem pack_unpack {b : List UInt8} (h : unErr b = 0) : packErr (unFiles b) (byName (unFiles b)) = 0 ∧ packB (byName (unFiles b)) = b ∧ namesErr [] (namesOf (unFiles b)) = 0 ∧ (unFiles b).length ≤ 100 ∧ (∀ p ∈ unFiles b, p.2.length ≤ b.length) ∧ b.length ≤ 1048576 ∧ byName (unFiles b) = unFiles b := by
  have hf : unFiles b = (match readH b with
    | none => []
    | some es => byName (filesH es)) := by
    unfold unFiles
    rw [if_pos h]
    rfl
  unfold unErr at h
  split at h
  · cases h
  · rename_i hbig
    cases hrd : readH b with
    | none => rw [hrd] at h; cases h
    | some es =>
      rw [hrd] at h hf
      dsimp only at h hf
      split at h
      · cases h
      · rename_i h100
        split at h
        · rename_i hc; exact absurd h hc
        · rename_i hc
          split at h
          · rename_i hp
            obtain ⟨hn, _⟩ := checkH_zero es [] (by simpa using hc)
            have hfl : (filesH es).length = es.length := by simp [filesH]
            have hL : namesErr [] (namesOf (byName (filesH es))) = 0 := (names_perm (byName_perm _)).2 hn
            have h2 := byName_twice hn
            rw [hf, h2]
            have hl := locsB_sum (byName (filesH es))
            have hk := packB_locs (byName (filesH es))
            rw [hp] at hk
            refine ⟨?_, hp, hL, by rw [byName_length, hfl]; omega, fun p hp' => by have := hl.2 p hp'; omega, by omega, rfl⟩
            unfold packErr
            rw [if_neg (by rw [byName_length, hfl]; omega), if_neg (by rw [hL]; simp), if_neg (by omega), if_neg (by rw [hp]; omega)]
          · cases h
open Go.RowKit
theorem packed_any (w : World) (A : Option Addr) (c : Nat) (l : List Fl) (hf : FlAt w A c l) (hm : MaxL w) (hs : ∀ p ∈ l, p.1.size ≤ 1048576) (hd : ∀ p ∈ l, p.2.length ≤ 1048576) (hbig : l.length ≤ 1048576) :
    Calls Tryd.prog 13 #[.slice A l.length c] w (PackPost w l (byName l)) :=
  packed_of w A c l (byName l) hf hm hs hd hbig fun _ hn => ⟨fun _ hp => (byName_perm l).mem_iff.1 hp, byName_length l, fun w' hb => rising_any w' A c l (hf.below hb) hbig (names_apart hn)⟩
theorem h1_any (w : World) (A : Option Addr) (c : Nat) (l : List Fl) (hf : FlAt w A c l) (hm : MaxL w) (hl : l.length ≤ 1024) (hs : ∀ p ∈ l, p.1.size ≤ 1048576) (hd : ∀ p ∈ l, p.2.length ≤ 1048576) :
    Calls Tryd.prog 15 #[.slice A l.length c] w (H1Post l (byName l) w) :=
  h1_of w A c l (byName l) hf hm hl hs fun hn w' hb =>
    sum_of w' A c l (byName l) (rising_any w' A c l (hf.below hb) (by omega) (names_apart hn)) (by rw [byName_length]; exact hl) (fun p hp => by have := names_size hn p ((byName_perm l).mem_iff.1 hp); omega) (fun p hp => hd p ((byName_perm l).mem_iff.1 hp))
end Go.Proofs.YtdmladdpbdcpjaaDoor
