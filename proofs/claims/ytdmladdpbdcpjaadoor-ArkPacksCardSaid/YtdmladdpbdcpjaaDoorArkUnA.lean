/-
  A number in bytes, read. (Printed by wip/abexp.py.)
  An archive's heads as a plain function of its bytes; an archive that was made has the heads of its files.
  bytes.HasPrefix and bytes.Equal over slices of bytes as these texts have them.
-/
import Derived.Test.YtdmladdpbdcpjaaDoorArkOwn
import Derived.Test.YtdmladdpbdcpjaaDoorArkPk0
import Derived.Test.YtdmladdpbdcpjaaDoorShelf
namespace Go.Proofs.YtdmladdpbdcpjaaDoor
open Go.RowKit

set_option linter.unusedSimpArgs false

attribute [local go_sem] lt1 lt2 lt3 lt4 lt5 lt6

def numOf : List UInt8 → Nat
  | [] => 0
  | x :: r => x.toNat + 256 * numOf r
theorem numOf_lt : ∀ b : List UInt8, numOf b < 256 ^ b.length
  | [] => by simp [numOf]
  | x :: r => by
    have ih := numOf_lt r
    have hx := x.toNat_lt
    rw [numOf, List.length_cons, Nat.pow_succ]
    omega
theorem numOf_append (a b : List UInt8) : numOf (a ++ b) = numOf a + 256 ^ a.length * numOf b := by
  induction a with
  | nil => simp [numOf]
  | cons x r ih =>
    rw [List.cons_append, numOf, numOf, ih, List.length_cons, Nat.pow_succ, Nat.mul_add, Nat.mul_comm (256 ^ r.length) 256, Nat.mul_assoc]
    omega
theorem pow256 (i : Nat) : 256 ^ i = 2 ^ (8 * i) := by rw [Nat.pow_mul]
theorem numOf_take {b : List UInt8} {i : Nat} (h : i < b.length) : numOf (b.take (i + 1)) = numOf (b.take i) ||| (b.getD i 0).toNat * 2 ^ (8 * i) := by
  have hl := numOf_lt (b.take i)
  have hi : (b.take i).length = i := by rw [List.length_take]; omega
  rw [hi, pow256] at hl
  rw [List.take_succ_eq_append_getElem h, numOf_append, hi, pow256]
  have e : numOf [b[i]] = (b.getD i 0).toNat := by simp [numOf, List.getD_eq_getElem?_getD, h]
  rw [e, Nat.or_comm, ← Nat.shiftLeft_eq, ← Nat.shiftLeft_add_eq_or_of_lt hl, Nat.shiftLeft_eq]
  rw [Nat.mul_comm (2 ^ (8 * i))]
  omega
def NuRel (b : List UInt8) (nv iv : Value) (w wr : World) : Prop := ∃ i, i ≤ b.length ∧ iv = .int .i64 (i : Nat) ∧ nv = .int .i64 (numOf (b.take i) : Nat) ∧ w = wr
set_option maxHeartbeats 1000000 in
theorem number_any (w : World) (b : List UInt8) (A : Option Addr) (c : Nat) (hb : Bs w A c b) (hl : b.length ≤ 4) :
    Calls Tryd.prog 86 #[.slice A b.length c] w fun e w' => e = .returned (.int .i64 (numOf b : Nat)) ∧ w = w' := by
  have Hb := Lib.hid hb
  clear hb
  go_enter Tryd.func86, Tryd.ntmps86
  go_wp2_with fail
  go_loopw [3, 8] (fun nv iv wr => NuRel b nv iv w wr) (fun _ iv _ => b.length - (intOf iv).toNat)
  case atStart => exact ⟨0, by omega, rfl, rfl, rfl⟩
  case round =>
    obtain ⟨i, hi, rfl, rfl, rfl⟩ := hrel
    have hir : (0 : Int) ≤ i := by omega
    by_cases hlt : i < b.length
    · have hlI : (i : Int) < b.length := by omega
      obtain ⟨bb, oo, rfl, c1⟩ := Hb.out.at_ hlt
      have hst := numOf_take hlt
      have hn := numOf_lt (b.take i)
      have hxl := (b.getD i 0).toNat_lt
      have hp : 2 ^ (8 * i) ≤ 16777216 := Nat.le_trans (Nat.pow_le_pow_right (by omega) (show 8 * i ≤ 24 by omega)) (by decide)
      have hnl : numOf (b.take i) < 4294967296 := Nat.lt_of_lt_of_le hn (Nat.le_trans (Nat.pow_le_pow_right (by omega) (show (b.take i).length ≤ 4 by rw [List.length_take]; omega)) (by decide))
      have hmul : (b.getD i 0).toNat * 2 ^ (8 * i) < 4294967296 := Nat.lt_of_le_of_lt (Nat.mul_le_mul (Nat.le_of_lt_succ (by omega : (b.getD i 0).toNat < 255 + 1)) hp) (by decide)
      have Hst : Hid (bits .or .i64 (numOf (b.take i) : Int) (((b.getD i 0).toNat * 2 ^ (8 * i) : Nat) : Int) = (numOf (b.take (i + 1)) : Int)) := Lib.hid (by rw [i64_or_nat _ _ (by omega) (by omega), hst])
      have hsh : IntKind.i64.wrap (((b.getD i 0).toNat : Int) * 2 ^ (8 * i)) = (((b.getD i 0).toNat * 2 ^ (8 * i) : Nat) : Int) := by
        have e : ((b.getD i 0).toNat : Int) * 2 ^ (8 * i) = (((b.getD i 0).toNat * 2 ^ (8 * i) : Nat) : Int) := by rw [Int.natCast_mul, Int.natCast_pow]; rfl
        rw [e, IntKind.wrap_i64]
        omega
      have s1 : (0 : Int) ≤ 8 * (i : Int) := by omega
      have s2 : 8 * (i : Int) ≤ 24 := by omega
      have s3 : (8 * (i : Int)).toNat = 8 * i := by omega
      have Hfin : Hid (NuRel b (.int .i64 (numOf (b.take (i + 1)) : Nat)) (.int .i64 ((i : Int) + 1)) w w) := Lib.hid ⟨i + 1, by omega, by simp, rfl, rfl⟩
      clear hst hn
      generalize numOf (b.take (i + 1)) = n1 at *
      generalize numOf (b.take i) = n0 at *
      generalize (b.getD i 0).toNat = x at *
      generalize x * 2 ^ (8 * i) = y at *
      go_wp2_with fail
      rw [Hst.out]
      exact ⟨Hfin.out, by simp only [intOf]; omega⟩
    · obtain rfl : i = b.length := by omega
      rw [List.take_of_length_le (Nat.le_refl _)]
      go_wp2_with fail
      go_ret
      exact ⟨rfl, rfl⟩
end Go.Proofs.YtdmladdpbdcpjaaDoor
namespace Go.Proofs.YtdmladdpbdcpjaaDoor

def headN (rest : List UInt8) (at' k : Nat) : Nat := numOf ((rest.drop at').take k)
/-- a head: the name, the data, the sum that it says -/
def headF (rest : List UInt8) : Fl × Nat := ((⟨((rest.drop 30).take (headN rest 26 2)).toArray⟩, (rest.drop (30 + headN rest 26 2)).take (headN rest 18 4)), headN rest 14 4)
def headL (rest : List UInt8) : Nat := 30 + headN rest 26 2 + headN rest 18 4
def readH (rest : List UInt8) : Option (List (Fl × Nat)) :=
  if rest.take 4 = [80, 75, 3, 4] then
    if _h : rest.length < headL rest then none
    else (readH (rest.drop (headL rest))).map fun l => headF rest :: l
  else some []
termination_by rest.length
decreasing_by
  rw [List.length_drop]
  have : 30 ≤ headL rest := by unfold headL; omega
  omega
theorem numOf_leB (k n : Nat) : numOf (leB k n) = n % 256 ^ k := by
  induction k generalizing n with
  | zero => simp [leB, numOf, Nat.mod_one]
  | succ k ih =>
    have h : leB (k + 1) n = UInt8.ofNat n :: leB k (n / 256) := by
      unfold leB
      rw [List.range_succ_eq_map, List.map_cons, List.map_map]
      congr 1
      · simp
      · apply List.map_congr_left
        intro i _
        simp only [Function.comp]
        congr 1
        rw [show 8 * (i + 1) = 8 + 8 * i by omega, Nat.pow_add, Nat.div_div_eq_div_mul]
    have e : 256 ^ (k + 1) = 256 * 256 ^ k := by rw [Nat.pow_succ, Nat.mul_comm]
    have e2 : (UInt8.ofNat n).toNat = n % 256 := by rw [UInt8.toNat_ofNat']
    rw [h, numOf, ih, e2, e, Nat.mod_mul]
theorem head_part {p q r : List UInt8} {a k : Nat} (hp : p.length = a) (hq : q.length = k) : ((p ++ q ++ r).drop a).take k = q := by
  rw [List.append_assoc, List.drop_append_of_le_length (by omega), List.drop_of_length_le (by omega), List.nil_append, List.take_append_of_le_length (by omega), List.take_of_length_le (by omega)]
theorem lesB_cons (k n : Nat) (l : List Nat) : lesB k (n :: l) = leB k n ++ lesB k l := by simp [lesB]
theorem headN_at {p r : List UInt8} {a k n : Nat} (hp : p.length = a) (hn : n < 256 ^ k) : headN (p ++ leB k n ++ r) a k = n := by
  unfold headN
  rw [head_part hp (leB_length k n), numOf_leB, Nat.mod_eq_of_lt hn]
theorem loc_name {p : Fl} {r : List UInt8} (h : p.1.size < 65536) : headN (locB p ++ r) 26 2 = p.1.size := by
  rw [show locB p ++ r = ([80, 75, 3, 4] ++ lesB 2 [20, 0, 0, 0, 33] ++ lesB 4 [crcOf p.2, p.2.length, p.2.length]) ++ leB 2 p.1.size ++ (leB 2 0 ++ toL p.1 ++ p.2 ++ r) by simp [locB, lesB, List.append_assoc]]
  exact headN_at (by simp [lesB_length]) (by simpa using h)
theorem loc_len {p : Fl} {r : List UInt8} (h : p.2.length < 4294967296) : headN (locB p ++ r) 18 4 = p.2.length := by
  rw [show locB p ++ r = ([80, 75, 3, 4] ++ lesB 2 [20, 0, 0, 0, 33] ++ leB 4 (crcOf p.2)) ++ leB 4 p.2.length ++ (leB 4 p.2.length ++ lesB 2 [p.1.size, 0] ++ toL p.1 ++ p.2 ++ r) by simp [locB, lesB, List.append_assoc]]
  exact headN_at (by simp [lesB_length, leB_length]) (by simpa using h)
theorem loc_crc {p : Fl} {r : List UInt8} : headN (locB p ++ r) 14 4 = crcOf p.2 := by
  rw [show locB p ++ r = ([80, 75, 3, 4] ++ lesB 2 [20, 0, 0, 0, 33]) ++ leB 4 (crcOf p.2) ++ (lesB 4 [p.2.length, p.2.length] ++ lesB 2 [p.1.size, 0] ++ toL p.1 ++ p.2 ++ r) by simp [locB, lesB, List.append_assoc]]
  exact headN_at (by simp [lesB_length]) (by have := crcOf_lt p.2; simpa using this)
theorem readH_loc {p : Fl} {r : List UInt8} (h1 : p.1.size < 65536) (h2 : p.2.length < 4294967296) : readH (locB p ++ r) = (readH r).map fun l => (p, crcOf p.2) :: l := by
  have hL : headL (locB p ++ r) = (locB p).length := by rw [headL, loc_name h1, loc_len h2, locB_len]
  have hF : headF (locB p ++ r) = (p, crcOf p.2) := by
    have e1 : ((locB p ++ r).drop 30).take p.1.size = toL p.1 := by
      rw [show locB p ++ r = ([80, 75, 3, 4] ++ lesB 2 [20, 0, 0, 0, 33] ++ lesB 4 [crcOf p.2, p.2.length, p.2.length] ++ lesB 2 [p.1.size, 0]) ++ toL p.1 ++ (p.2 ++ r) by simp [locB, List.append_assoc]]
      exact head_part (by simp [lesB_length]) (toL_length _)
    have e2 : ((locB p ++ r).drop (30 + p.1.size)).take p.2.length = p.2 := by
      rw [show locB p ++ r = ([80, 75, 3, 4] ++ lesB 2 [20, 0, 0, 0, 33] ++ lesB 4 [crcOf p.2, p.2.length, p.2.length] ++ lesB 2 [p.1.size, 0] ++ toL p.1) ++ p.2 ++ r by simp [locB, List.append_assoc]]
      exact head_part (by simp [lesB_length, toL_length]; omega) rfl
    unfold headF
    rw [loc_name h1, loc_len h2, loc_crc, e1, e2]
    simp [toL]
  rw [readH, if_pos (by simp [locB]), dif_neg (by rw [hL, List.length_append]; omega), hL, hF, List.drop_left]
theorem readH_locs {r : List UInt8} : ∀ (l : List Fl), (∀ p ∈ l, p.1.size < 65536 ∧ p.2.length < 4294967296) → readH (locsB l ++ r) = (readH r).map fun k => l.map (fun p => (p, crcOf p.2)) ++ k
  | [], _ => by simp [locsB]
  | p :: l, h => by
    have ih := readH_locs (r := r) l fun q hq => h q (by simp [hq])
    have hp := h p (by simp)
    rw [show locsB (p :: l) ++ r = locB p ++ (locsB l ++ r) by simp [locsB], readH_loc hp.1 hp.2, ih]
    cases readH r <;> simp
theorem readH_stop {r : List UInt8} (h : r.take 4 ≠ [80, 75, 3, 4]) : readH r = some [] := by rw [readH, if_neg h]
theorem readH_pack (l : List Fl) (h : ∀ p ∈ l, p.1.size < 65536 ∧ p.2.length < 4294967296) : readH (packB l) = some (l.map fun p => (p, crcOf p.2)) := by
  have hs : ((censB l l.length) ++ endB l.length (censB l l.length).length (locsB l).length).take 4 ≠ [80, 75, 3, 4] := by
    cases l with
    | nil => simp [censB, endB]
    | cons p l =>
      have : censB (p :: l) (p :: l).length = cenB ((p :: l).getD 0 noFl) (begs (p :: l) 0) ++ ((List.range l.length).map (· + 1)).flatMap fun i => cenB ((p :: l).getD i noFl) (begs (p :: l) i) := by
        unfold censB
        rw [List.length_cons, List.range_succ_eq_map, List.flatMap_cons]
      rw [this]
      simp [cenB]
  rw [packB, List.append_assoc, readH_locs l h, readH_stop hs]
  simp
end Go.Proofs.YtdmladdpbdcpjaaDoor
namespace Go.Proofs.YtdmladdpbdcpjaaDoor
open Go.RowKit

def intsOf (l : List UInt8) : List Int := l.map fun x => (x.toNat : Int)
theorem intsOf_length (l : List UInt8) : (intsOf l).length = l.length := by simp [intsOf]
theorem bytesOf_ints (l : List UInt8) : Lib.bytesOf (intsOf l) = l := by
  unfold Lib.bytesOf intsOf
  rw [List.map_map]
  conv => rhs; rw [← List.map_id l]
  apply List.map_congr_left
  intro x _
  simp
theorem bytesIn {w : World} {A : Option Addr} {c : Nat} {l : List UInt8} (h : Bs w A c l) : Lib.BytesIn w A l.length (intsOf l) := by
  intro hp
  obtain ⟨b, o, rfl, hx⟩ := h.cells hp
  refine ⟨b, o, rfl, fun i hi => ?_⟩
  rw [hx i (by omega), u8s_at hi]
  simp [intsOf, List.getD_eq_getElem?_getD, hi]
theorem prefix_any (x y : List UInt8) (A1 A2 : Option Addr) (n m c1 c2 : Nat) (w : World) (hn : x.length = n) (hm : y.length = m) (h1 : Bs w A1 c1 x) (h2 : Bs w A2 c2 y) :
    Calls Tryd.prog 85 #[.slice A1 n c1, .slice A2 m c2] w fun e w' => e = .returned (.bool (y.isPrefixOf x)) ∧ w' = w := by
  subst hn hm
  have h := Tryd.bytes_HasPrefix_all A1 A2 x.length c1 y.length c2 (intsOf x) (intsOf y) w (intsOf_length _) (intsOf_length _) h1.le (bytesIn h1) (bytesIn h2)
  rw [bytesOf_ints, bytesOf_ints] at h
  exact h
theorem equal_any (x y : List UInt8) (A1 A2 : Option Addr) (n m c1 c2 : Nat) (w : World) (hn : x.length = n) (hm : y.length = m) (h1 : Bs w A1 c1 x) (h2 : Bs w A2 c2 y) :
    Calls Tryd.prog 63 #[.slice A1 n c1, .slice A2 m c2] w fun e w' => e = .returned (.bool (x == y)) ∧ w' = w := by
  subst hn hm
  have h := Tryd.bytes_Equal_all A1 A2 x.length c1 y.length c2 (intsOf x) (intsOf y) w (intsOf_length _) (intsOf_length _) (bytesIn h1) (bytesIn h2)
  rw [bytesOf_ints, bytesOf_ints] at h
  exact h
end Go.Proofs.YtdmladdpbdcpjaaDoor
