/-
  An archive's heads as a plain function of its bytes; an archive that was made has the heads of its files.
-/
import Derived.Test.YtdmladdpbdcpjaaDoorArkPk0
import Derived.Test.YtdmladdpbdcpjaaDoorArkNum
namespace Go.Proofs.YtdmladdpbdcpjaaDoor

def headN (rest : List UInt8) (at' k : Nat) : Nat := numOf ((rest.drop at').take k)
/-- a head: the name, the data, the sum that it says -/
def headF (rest : List UInt8) : Fl × Nat := ((⟨((rest.drop 30).take (headN rest 26 2)).toArray⟩, (rest.drop (30 + headN rest 26 2)).take (headN rest 18 4)), headN rest 14 4)
def headL (rest : List UInt8) : Nat := 30 + headN rest 26 2 + headN rest 18 4
def readH (rest : List UInt8) : Option (List (Fl × Nat)) :=
  if rest.take 4 = [80, 75, 3, 4] then
    if _h : rest.length < headL rest then none
    else (readH (rest.drop (headL rest))).map fun l => headF rest :: l
  else some []
termination_by rest.length
decreasing_by
  rw [List.length_drop]
  have : 30 ≤ headL rest := by unfold headL; omega
  omega
theorem numOf_leB (k n : Nat) : numOf (leB k n) = n % 256 ^ k := by
  induction k generalizing n with
  | zero => simp [leB, numOf, Nat.mod_one]
  | succ k ih =>
    have h : leB (k + 1) n = UInt8.ofNat n :: leB k (n / 256) := by
      unfold leB
      rw [List.range_succ_eq_map, List.map_cons, List.map_map]
      congr 1
      · simp
      · apply List.map_congr_left
        intro i _
        simp only [Function.comp]
        congr 1
        rw [show 8 * (i + 1) = 8 + 8 * i by omega, Nat.pow_add, Nat.div_div_eq_div_mul]
    have e : 256 ^ (k + 1) = 256 * 256 ^ k := by rw [Nat.pow_succ, Nat.mul_comm]
    have e2 : (UInt8.ofNat n).toNat = n % 256 := by rw [UInt8.toNat_ofNat']
    rw [h, numOf, ih, e2, e, Nat.mod_mul]
theorem head_part {p q r : List UInt8} {a k : Nat} (hp : p.length = a) (hq : q.length = k) : ((p ++ q ++ r).drop a).take k = q := by
  rw [List.append_assoc, List.drop_append_of_le_length (by omega), List.drop_of_length_le (by omega), List.nil_append, List.take_append_of_le_length (by omega), List.take_of_length_le (by omega)]
theorem lesB_cons (k n : Nat) (l : List Nat) : lesB k (n :: l) = leB k n ++ lesB k l := by simp [lesB]
theorem headN_at {p r : List UInt8} {a k n : Nat} (hp : p.length = a) (hn : n < 256 ^ k) : headN (p ++ leB k n ++ r) a k = n := by
  unfold headN
  rw [head_part hp (leB_length k n), numOf_leB, Nat.mod_eq_of_lt hn]
theorem loc_name {p : Fl} {r : List UInt8} (h : p.1.size < 65536) : headN (locB p ++ r) 26 2 = p.1.size := by
  rw [show locB p ++ r = ([80, 75, 3, 4] ++ lesB 2 [20, 0, 0, 0, 33] ++ lesB 4 [crcOf p.2, p.2.length, p.2.length]) ++ leB 2 p.1.size ++ (leB 2 0 ++ toL p.1 ++ p.2 ++ r) by simp [locB, lesB, List.append_assoc]]
  exact headN_at (by simp [lesB_length]) (by simpa using h)
theorem loc_len {p : Fl} {r : List UInt8} (h : p.2.length < 4294967296) : headN (locB p ++ r) 18 4 = p.2.length := by
  rw [show locB p ++ r = ([80, 75, 3, 4] ++ lesB 2 [20, 0, 0, 0, 33] ++ leB 4 (crcOf p.2)) ++ leB 4 p.2.length ++ (leB 4 p.2.length ++ lesB 2 [p.1.size, 0] ++ toL p.1 ++ p.2 ++ r) by simp [locB, lesB, List.append_assoc]]
  exact headN_at (by simp [lesB_length, leB_length]) (by simpa using h)
theorem loc_crc {p : Fl} {r : List UInt8} : headN (locB p ++ r) 14 4 = crcOf p.2 := by
  rw [show locB p ++ r = ([80, 75, 3, 4] ++ lesB 2 [20, 0, 0, 0, 33]) ++ leB 4 (crcOf p.2) ++ (lesB 4 [p.2.length, p.2.length] ++ lesB 2 [p.1.size, 0] ++ toL p.1 ++ p.2 ++ r) by simp [locB, lesB, List.append_assoc]]
  exact headN_at (by simp [lesB_length]) (by have := crcOf_lt p.2; simpa using this)
theorem readH_loc {p : Fl} {r : List UInt8} (h1 : p.1.size < 65536) (h2 : p.2.length < 4294967296) : readH (locB p ++ r) = (readH r).map fun l => (p, crcOf p.2) :: l := by
  have hL : headL (locB p ++ r) = (locB p).length := by rw [headL, loc_name h1, loc_len h2, locB_len]
  have hF : headF (locB p ++ r) = (p, crcOf p.2) := by
    have e1 : ((locB p ++ r).drop 30).take p.1.size = toL p.1 := by
      rw [show locB p ++ r = ([80, 75, 3, 4] ++ lesB 2 [20, 0, 0, 0, 33] ++ lesB 4 [crcOf p.2, p.2.length, p.2.length] ++ lesB 2 [p.1.size, 0]) ++ toL p.1 ++ (p.2 ++ r) by simp [locB, List.append_assoc]]
      exact head_part (by simp [lesB_length]) (toL_length _)
    have e2 : ((locB p ++ r).drop (30 + p.1.size)).take p.2.length = p.2 := by
      rw [show locB p ++ r = ([80, 75, 3, 4] ++ lesB 2 [20, 0, 0, 0, 33] ++ lesB 4 [crcOf p.2, p.2.length, p.2.length] ++ lesB 2 [p.1.size, 0] ++ toL p.1) ++ p.2 ++ r by simp [locB, List.append_assoc]]
      exact head_part (by simp [lesB_length, toL_length]; omega) rfl
    unfold headF
    rw [loc_name h1, loc_len h2, loc_crc, e1, e2]
    simp [toL]
  rw [readH, if_pos (by simp [locB]), dif_neg (by rw [hL, List.length_append]; omega), hL, hF, List.drop_left]
theorem readH_locs {r : List UInt8} : ∀ (l : List Fl), (∀ p ∈ l, p.1.size < 65536 ∧ p.2.length < 4294967296) → readH (locsB l ++ r) = (readH r).map fun k => l.map (fun p => (p, crcOf p.2)) ++ k
  | [], _ => by simp [locsB]
  | p :: l, h => by
    have ih := readH_locs (r := r) l fun q hq => h q (by simp [hq])
    have hp := h p (by simp)
    rw [show locsB (p :: l) ++ r = locB p ++ (locsB l ++ r) by simp [locsB], readH_loc hp.1 hp.2, ih]
    cases readH r <;> simp
theorem readH_stop {r : List UInt8} (h : r.take 4 ≠ [80, 75, 3, 4]) : readH r = some [] := by rw [readH, if_neg h]
theorem readH_pack (l : List Fl) (h : ∀ p ∈ l, p.1.size < 65536 ∧ p.2.length < 4294967296) : readH (packB l) = some (l.map fun p => (p, crcOf p.2)) := by
  have hs : ((censB l l.length) ++ endB l.length (censB l l.length).length (locsB l).length).take 4 ≠ [80, 75, 3, 4] := by
    cases l with
    | nil => simp [censB, endB]
    | cons p l =>
      have : censB (p :: l) (p :: l).length = cenB ((p :: l).getD 0 noFl) (begs (p :: l) 0) ++ ((List.range l.length).map (· + 1)).flatMap fun i => cenB ((p :: l).getD i noFl) (begs (p :: l) i) := by
        unfold censB
        rw [List.length_cons, List.range_succ_eq_map, List.flatMap_cons]
      rw [this]
      simp [cenB]
  rw [packB, List.append_assoc, readH_locs l h, readH_stop hs]
  simp
end Go.Proofs.YtdmladdpbdcpjaaDoor
