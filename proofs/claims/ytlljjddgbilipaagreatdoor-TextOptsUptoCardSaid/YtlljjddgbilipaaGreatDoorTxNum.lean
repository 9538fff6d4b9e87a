/-
  Plain: the number of a word, in its one form: the package's and the document's.
-/
import Derived.Test.YtlljjddgbilipaaGreatDoorTxPl
import Derived.Lib.AtoiAllCases
import Derived.Lib.ItoaNum
namespace Go.Proofs.YtlljjddgbilipaaGreatDoor

def isD (b : UInt8) : Bool := decide (48 ≤ b.toNat) && decide (b.toNat ≤ 57)
def dval (b : UInt8) : Nat := b.toNat - 48
def valF : Nat → List UInt8 → Nat := fun acc l => l.foldl (fun a c => a * 10 + dval c) acc
theorem isD_iff {b : UInt8} : isD b = true ↔ 48 ≤ b.toNat ∧ b.toNat ≤ 57 := by unfold isD; simp
theorem valF_snoc : ∀ (l : List UInt8) (acc : Nat) (c : UInt8), valF acc (l ++ [c]) = valF acc l * 10 + dval c
  | [], _, _ => rfl
  | _ :: l, acc, c => by
    unfold valF
    rw [List.foldl_append]
    rfl
theorem valF_cons (acc : Nat) (c : UInt8) (r : List UInt8) : valF acc (c :: r) = valF (acc * 10 + dval c) r := List.foldl_cons ..
def p10 : Nat → Nat
  | 0 => 1
  | n + 1 => p10 n * 10
theorem p10_pos : ∀ n, 1 ≤ p10 n
  | 0 => Nat.le_refl _
  | n + 1 => by have := p10_pos n; rw [p10]; omega
theorem p10_mono {m : Nat} : ∀ {n : Nat}, m ≤ n → p10 m ≤ p10 n
  | 0, h => by rw [Nat.le_zero.1 h]; exact Nat.le_refl _
  | n + 1, h => by
    by_cases e : m = n + 1
    · rw [e]; exact Nat.le_refl _
    · have := p10_mono (show m ≤ n by omega)
      rw [p10]
      omega
theorem p10_19 : p10 19 = 10000000000000000000 := by decide +kernel
theorem valF_ge : ∀ (l : List UInt8) (acc : Nat), acc * p10 l.length ≤ valF acc l
  | [], acc => by show acc * 1 ≤ acc; omega
  | c :: r, acc => by
    have h := valF_ge r (acc * 10 + dval c)
    rw [valF_cons]
    show acc * (p10 r.length * 10) ≤ _
    refine Nat.le_trans ?_ h
    rw [Nat.add_mul]
    have : acc * (p10 r.length * 10) = acc * 10 * p10 r.length := by rw [Nat.mul_comm (p10 r.length), Nat.mul_assoc]
    omega
theorem valF_le (l : List UInt8) (acc : Nat) : acc ≤ valF acc l := Nat.le_trans (Nat.le_mul_of_pos_right acc (p10_pos _)) (valF_ge l acc)
theorem dig_nat {n : Nat} (h : n < 10) : (UInt8.ofNat (48 + n)).toNat = 48 + n := by
  rw [UInt8.toNat_ofNat']
  omega
theorem dec_all : ∀ (u : Nat), (Lib.decDigits u).all isD = true ∧ valF 0 (Lib.decDigits u) = u ∧ Lib.decDigits u ≠ [] ∧ (1 ≤ u → (Lib.decDigits u).head? ≠ some 48) := by
  intro u
  induction u using Nat.strongRecOn with
  | ind u ih =>
    rw [Lib.decDigits]
    by_cases h : u < 10
    · rw [dif_pos h]
      have h1 := dig_nat h
      refine ⟨?_, ?_, by simp, fun h2 e => ?_⟩
      · simp only [List.all_cons, List.all_nil, Bool.and_true]
        exact isD_iff.2 (by omega)
      · show 0 * 10 + dval _ = u
        unfold dval
        omega
      · simp only [List.head?_cons, Option.some.injEq] at e
        rw [e] at h1
        have : (48 : UInt8).toNat = 48 := rfl
        omega
    · rw [dif_neg h]
      obtain ⟨i1, i2, i3, i4⟩ := ih (u / 10) (by omega)
      have h1 := dig_nat (show u % 10 < 10 by omega)
      refine ⟨?_, ?_, by simp, fun _ => ?_⟩
      · rw [List.all_append, i1]
        simp only [List.all_cons, List.all_nil, Bool.and_true, Bool.true_and]
        exact isD_iff.2 (by omega)
      · rw [valF_snoc, i2]
        unfold dval
        omega
      · cases hd : Lib.decDigits (u / 10) with
        | nil => exact absurd hd i3
        | cons x y =>
          have := i4 (by omega)
          rw [hd] at this
          simpa using this
/-- digits in their one form -/
structure Canon (d : List UInt8) : Prop where
  ne : d ≠ []
  dig : d.all isD = true
  first : 1 < d.length → d.head? ≠ some 48
theorem u8_of_digit {c : UInt8} (h : isD c = true) : UInt8.ofNat (48 + dval c) = c := by
  have := isD_iff.1 h
  unfold dval
  rw [show 48 + (c.toNat - 48) = c.toNat by omega, UInt8.ofNat_toNat]
theorem canon_pos {d : List UInt8} (h : d.all isD = true) {c : UInt8} {r : List UInt8} (e : d = c :: r) (hc : c ≠ 48) : p10 r.length ≤ valF 0 d := by
  subst e
  simp only [List.all_cons, Bool.and_eq_true] at h
  have h1 := isD_iff.1 h.1
  have h2 : 1 ≤ dval c := by
    unfold dval
    have : c.toNat ≠ 48 := fun e => hc (UInt8.toNat_inj.1 e)
    omega
  have h3 := valF_ge r (dval c)
  show p10 r.length ≤ valF (0 * 10 + dval c) r
  rw [Nat.zero_mul, Nat.zero_add]
  exact Nat.le_trans (Nat.le_mul_of_pos_left _ h2) h3
theorem dec_of_canon : ∀ (n : Nat) (d : List UInt8), d.length = n → Canon d → Lib.decDigits (valF 0 d) = d := by
  intro n
  induction n with
  | zero => intro d hl h; exact absurd (List.eq_nil_of_length_eq_zero hl) h.ne
  | succ n ih =>
    intro d hl h
    obtain ⟨d', c, rfl⟩ : ∃ d' c, d = d' ++ [c] := ⟨d.dropLast, d.getLast h.ne, (List.dropLast_concat_getLast h.ne).symm⟩
    have hd := h.dig
    rw [List.all_append] at hd
    simp only [List.all_cons, List.all_nil, Bool.and_true, Bool.and_eq_true] at hd
    have hc := isD_iff.1 hd.2
    have hdv : dval c < 10 := by unfold dval; omega
    rw [valF_snoc]
    cases d' with
    | nil =>
      rw [Lib.decDigits, dif_pos (by show 0 * 10 + dval c < 10; omega)]
      show [UInt8.ofNat (48 + (0 * 10 + dval c))] = [c]
      rw [Nat.zero_mul, Nat.zero_add, u8_of_digit hd.2]
    | cons x r =>
      have hx : x ≠ 48 := fun e => h.first (by simp) (by rw [e]; rfl)
      have hp := canon_pos hd.1 rfl hx
      have h1 : 1 ≤ valF 0 (x :: r) := Nat.le_trans (p10_pos _) hp
      have hcan : Canon (x :: r) := ⟨by simp, hd.1, fun _ e => hx (by simpa using e)⟩
      have hi := ih (x :: r) (by simp at hl ⊢; omega) hcan
      rw [Lib.decDigits, dif_neg (by omega), show (valF 0 (x :: r) * 10 + dval c) / 10 = valF 0 (x :: r) by omega, show (valF 0 (x :: r) * 10 + dval c) % 10 = dval c by omega, hi, u8_of_digit hd.2]
theorem dec_canon (u : Nat) : Canon (Lib.decDigits u) := by
  obtain ⟨h1, h2, h3, h4⟩ := dec_all u
  refine ⟨h3, h1, fun hl => ?_⟩
  by_cases hu : 1 ≤ u
  · exact h4 hu
  · have : u = 0 := by omega
    subst this
    rw [Lib.decDigits, dif_pos (by decide)] at hl
    simp at hl
theorem parse_dig : ∀ (l : List UInt8) (acc : Nat), l.all isD = true → valF acc l < 18446744073709551616 → Lib.parseUint10 acc l = .ok (valF acc l)
  | [], _, _, _ => rfl
  | c :: r, acc, h, hv => by
    simp only [List.all_cons, Bool.and_eq_true] at h
    have hc := isD_iff.1 h.1
    have hle := valF_le r (acc * 10 + dval c)
    rw [valF_cons] at hv ⊢
    rw [Lib.parseUint10, if_pos hc, if_neg (by unfold dval at *; omega), if_neg (by unfold dval at *; omega)]
    exact parse_dig r _ h.2 hv
theorem canon_head {d : List UInt8} (h : Canon d) : ∃ c r, d = c :: r ∧ isD c = true := by
  cases d with
  | nil => exact absurd rfl h.ne
  | cons c r =>
    have := h.dig
    simp only [List.all_cons, Bool.and_eq_true] at this
    exact ⟨c, r, rfl, this.1⟩
theorem itoa_pos {n : Int} (h : 0 ≤ n) : Lib.itoa n = Lib.decDigits n.toNat := by unfold Lib.itoa; rw [if_neg (by omega)]
theorem itoa_minus {n : Int} (h : n < 0) : Lib.itoa n = 45 :: Lib.decDigits n.natAbs := by unfold Lib.itoa; rw [if_pos h]
theorem atoi_itoa {n : Int} (h0 : -9223372036854775808 ≤ n) (h1 : n ≤ 9223372036854775807) : Lib.atoiAll (Lib.itoa n) = .ok n := by
  by_cases hn : 0 ≤ n
  · rw [itoa_pos hn]
    obtain ⟨k1, k2, k3, _⟩ := dec_all n.toNat
    obtain ⟨c, r, e, hc⟩ := canon_head (dec_canon n.toNat)
    have hc2 := isD_iff.1 hc
    have hp : Lib.parseMag (Lib.decDigits n.toNat) = .ok n.toNat := by
      unfold Lib.parseMag
      rw [if_neg k3, parse_dig _ 0 k1 (by rw [k2]; omega), k2]
    rw [e] at hp ⊢
    rw [Lib.atoiAll_plain c r (by omega) (by omega), hp]
    unfold Lib.signless
    simp only
    rw [if_neg (by omega)]
    congr 1
    omega
  · have hn : n < 0 := by omega
    rw [itoa_minus hn]
    obtain ⟨k1, k2, k3, _⟩ := dec_all n.natAbs
    have hp : Lib.parseMag (Lib.decDigits n.natAbs) = .ok n.natAbs := by
      unfold Lib.parseMag
      rw [if_neg k3, parse_dig _ 0 k1 (by rw [k2]; omega), k2]
    rw [Lib.atoiAll_minus, hp]
    unfold Lib.signed
    simp only
    rw [if_neg (by omega)]
    congr 1
    omega
/-- the package's -/
def numP (s : List UInt8) : Option Int := match Lib.atoiAll s with
  | .ok n => if (-4611686018427387904 ≤ n ∧ n ≤ 4611686018427387904) ∧ Lib.itoa n = s then some n else none
  | _ => none
theorem numP_iff {s : List UInt8} {n : Int} : numP s = some n ↔ Lib.itoa n = s ∧ -4611686018427387904 ≤ n ∧ n ≤ 4611686018427387904 := by
  unfold numP
  constructor
  · intro h
    split at h
    · split at h
      · rename_i hh
        cases h
        exact ⟨hh.2, hh.1⟩
      · cases h
    · cases h
  · rintro ⟨rfl, h1, h2⟩
    rw [atoi_itoa (by omega) (by omega)]
    simp only
    simp [h1, h2]
/-! ### the document's -/
def loopR (n : Int) : List UInt8 → Option Int
  | [] => some n
  | c :: r => if isD c = true then if n < Int.tdiv (-9223372036854775808 + (dval c : Nat)) 10 then none else loopR (10 * n - (dval c : Nat)) r else none
def negR (s : List UInt8) : Bool := decide (1 < s.length) && decide (s.head? = some 45)
def digR (s : List UInt8) : List UInt8 := if negR s then s.tail else s
def badR (s : List UInt8) : Prop := digR s = [] ∨ 19 < (digR s).length ∨ (1 < (digR s).length ∧ (digR s).head? = some 48) ∨ (negR s = true ∧ digR s = [48])
instance (s : List UInt8) : Decidable (badR s) := by unfold badR; infer_instance
def atoiR (s : List UInt8) : Option Int := if badR s then none else match loopR 0 (digR s) with
  | none => none
  | some n => if negR s then some n else if n = -9223372036854775808 then none else some (-n)
theorem loopR_dig : ∀ (l : List UInt8) (acc : Nat), l.all isD = true → loopR (-(acc : Int)) l = if valF acc l ≤ 9223372036854775808 ∨ l = [] then some (-(valF acc l : Int)) else none
  | [], acc, _ => by rw [loopR, if_pos (.inr rfl)]; rfl
  | c :: r, acc, h => by
    simp only [List.all_cons, Bool.and_eq_true] at h
    have hc := isD_iff.1 h.1
    have hd : dval c ≤ 9 := by unfold dval; omega
    have hle := valF_le r (acc * 10 + dval c)
    have ht : Int.tdiv (-9223372036854775808 + (dval c : Nat)) 10 = -(((9223372036854775808 - dval c : Nat) / 10 : Nat) : Int) := by
      rw [show (-9223372036854775808 + ((dval c : Nat) : Int)) = -(((9223372036854775808 - dval c : Nat)) : Int) by omega, Int.neg_tdiv]
      rfl
    rw [loopR, if_pos h.1, ht, valF_cons]
    by_cases hb : 9223372036854775808 < acc * 10 + dval c
    · rw [if_pos (by omega), if_neg (by simp; omega)]
    · rw [if_neg (by omega)]
      have e : 10 * -(acc : Int) - (dval c : Nat) = -((acc * 10 + dval c : Nat) : Int) := by omega
      rw [e, loopR_dig r _ h.2]
      by_cases hr : r = []
      · subst hr
        rw [if_pos (.inr rfl), if_pos (.inl (by show acc * 10 + dval c ≤ _; omega))]
      · simp [hr]
theorem loopR_no : ∀ (l : List UInt8) (n : Int), l.all isD = false → loopR n l = none
  | [], _, h => by simp at h
  | c :: r, n, h => by
    rw [loopR]
    by_cases hc : isD c = true
    · rw [if_pos hc]
      split
      · rfl
      · refine loopR_no r _ ?_
        simpa [hc] using h
    · rw [if_neg hc]
theorem atoiR_some {s : List UInt8} {n : Int} (h : atoiR s = some n) : Lib.itoa n = s ∧ -9223372036854775808 ≤ n ∧ n ≤ 9223372036854775807 := by
  unfold atoiR at h
  split at h
  · cases h
  rename_i hb
  unfold badR at hb
  have b1 : digR s ≠ [] := fun e => hb (.inl e)
  have b3 : ¬ (1 < (digR s).length ∧ (digR s).head? = some 48) := fun e => hb (.inr (.inr (.inl e)))
  have b4 : ¬ (negR s = true ∧ digR s = [48]) := fun e => hb (.inr (.inr (.inr e)))
  have hall : (digR s).all isD = true := by
    cases ha : (digR s).all isD with
    | true => rfl
    | false => rw [loopR_no _ _ ha] at h; cases h
  have hcan : Canon (digR s) := ⟨b1, hall, fun h1 e => b3 ⟨h1, e⟩⟩
  have hdec := dec_of_canon _ _ rfl hcan
  have hl := loopR_dig (digR s) 0 hall
  rw [show (-((0 : Nat) : Int)) = 0 by rfl] at hl
  rw [hl] at h
  by_cases hv : valF 0 (digR s) ≤ 9223372036854775808
  · rw [if_pos (.inl hv)] at h
    simp only at h
    split at h
    · rename_i hn
      cases h
      have hs : s = 45 :: digR s := by
        have hn2 := hn
        unfold negR at hn2
        simp only [Bool.and_eq_true, decide_eq_true_eq] at hn2
        unfold digR
        rw [if_pos hn]
        cases s with
        | nil => simp at hn2
        | cons c r => simp at hn2; rw [hn2.2]; rfl
      have hpos : 1 ≤ valF 0 (digR s) := by
        obtain ⟨c, r, e, hc⟩ := canon_head hcan
        by_cases hc0 : c = 48
        · exfalso
          subst hc0
          cases r with
          | nil => exact b4 ⟨hn, e⟩
          | cons x r => exact b3 ⟨by rw [e]; simp, by rw [e]; rfl⟩
        · have := canon_pos hall e hc0
          exact Nat.le_trans (p10_pos _) this
      refine ⟨?_, by omega, by omega⟩
      rw [itoa_minus (by omega), show (-(valF 0 (digR s) : Int)).natAbs = valF 0 (digR s) by omega, hdec]
      exact hs.symm
    · rename_i hn
      split at h
      · cases h
      · rename_i hm
        cases h
        have hs : digR s = s := by unfold digR; rw [if_neg hn]
        refine ⟨?_, by omega, by omega⟩
        rw [itoa_pos (by omega), show (- -(valF 0 (digR s) : Int)).toNat = valF 0 (digR s) by omega, hdec]
        exact hs
  · rw [if_neg (by simp [b1]; omega)] at h
    cases h
theorem atoiR_itoa {n : Int} (h0 : -9223372036854775808 ≤ n) (h1 : n ≤ 9223372036854775807) : atoiR (Lib.itoa n) = some n := by
  have key : ∀ u : Nat, u ≤ 9223372036854775808 → ((Lib.decDigits u).length ≤ 19 ∧ loopR 0 (Lib.decDigits u) = some (-(u : Int))) := fun u hu => by
    obtain ⟨k1, k2, k3, k4⟩ := dec_all u
    constructor
    · by_cases h1 : 1 ≤ u
      · obtain ⟨c, r, e, hc⟩ := canon_head (dec_canon u)
        have hc0 : c ≠ 48 := fun e2 => k4 h1 (by rw [e, e2]; rfl)
        have := canon_pos k1 e hc0
        rw [k2] at this
        rw [e, List.length_cons]
        by_cases hl : r.length ≤ 18
        · omega
        · exfalso
          have h19 : p10 19 ≤ p10 r.length := p10_mono (by omega)
          rw [p10_19] at h19
          omega
      · have : u = 0 := by omega
        subst this
        rw [Lib.decDigits, dif_pos (by decide)]
        simp
    · have hl := loopR_dig (Lib.decDigits u) 0 k1
      rw [show (-((0 : Nat) : Int)) = 0 by rfl, k2, if_pos (.inl hu)] at hl
      exact hl
  by_cases hn : 0 ≤ n
  · rw [itoa_pos hn]
    obtain ⟨c, r, e, hc⟩ := canon_head (dec_canon n.toNat)
    have hcan := dec_canon n.toNat
    obtain ⟨k1, k2⟩ := key n.toNat (by omega)
    have hneg : negR (Lib.decDigits n.toNat) = false := by
      unfold negR
      have h2 := isD_iff.1 hc
      have : (Lib.decDigits n.toNat).head? ≠ some 45 := by
        rw [e]
        simp only [List.head?_cons, ne_eq, Option.some.injEq]
        intro e2
        rw [e2] at h2
        exact absurd h2.1 (by decide)
      simp [this]
    have hd : digR (Lib.decDigits n.toNat) = Lib.decDigits n.toNat := by unfold digR; rw [hneg]; rfl
    have hb : ¬ badR (Lib.decDigits n.toNat) := by
      unfold badR
      rw [hd, hneg]
      rintro (h | h | h | h)
      · exact hcan.ne h
      · omega
      · exact hcan.first h.1 h.2
      · exact absurd h.1 (by decide)
    unfold atoiR
    rw [if_neg hb, hd, k2, hneg]
    simp only
    rw [if_neg (by decide), if_neg (by omega)]
    congr 1
    omega
  · have hn : n < 0 := by omega
    rw [itoa_minus hn]
    have hcan := dec_canon n.natAbs
    obtain ⟨d1, d2, d3, d4⟩ := dec_all n.natAbs
    obtain ⟨k1, k2⟩ := key n.natAbs (by omega)
    have hlen : 0 < (Lib.decDigits n.natAbs).length := List.length_pos_iff.2 d3
    have hneg : negR (45 :: Lib.decDigits n.natAbs) = true := by
      unfold negR
      simp
      omega
    have hd : digR (45 :: Lib.decDigits n.natAbs) = Lib.decDigits n.natAbs := by unfold digR; rw [hneg]; rfl
    have hb : ¬ badR (45 :: Lib.decDigits n.natAbs) := by
      unfold badR
      rw [hd, hneg]
      rintro (h | h | h | h)
      · exact hcan.ne h
      · omega
      · exact hcan.first h.1 h.2
      · exact d4 (by omega) (by rw [h.2]; rfl)
    unfold atoiR
    rw [if_neg hb, hd, k2, hneg]
    simp only [if_true]
    congr 1
    omega
/-- the document's number of a word -/
def numR (s : List UInt8) : Option Int := match atoiR s with
  | some n => if 4611686018427387904 < n ∨ n < -4611686018427387904 then none else some n
  | none => none
theorem numR_eq (s : List UInt8) : numR s = numP s := by
  cases hp : numP s with
  | some n =>
    obtain ⟨h1, h2, h3⟩ := numP_iff.1 hp
    unfold numR
    rw [← h1, atoiR_itoa (by omega) (by omega)]
    simp only
    rw [if_neg (by omega)]
  | none =>
    unfold numR
    cases ha : atoiR s with
    | none => rfl
    | some n =>
      simp only
      obtain ⟨h1, h2, h3⟩ := atoiR_some ha
      by_cases hb : 4611686018427387904 < n ∨ n < -4611686018427387904
      · rw [if_pos hb]
      · exfalso
        have := numP_iff.2 ⟨h1, show -4611686018427387904 ≤ n by omega, show n ≤ 4611686018427387904 by omega⟩
        rw [hp] at this
        cases this
end Go.Proofs.YtlljjddgbilipaaGreatDoor
