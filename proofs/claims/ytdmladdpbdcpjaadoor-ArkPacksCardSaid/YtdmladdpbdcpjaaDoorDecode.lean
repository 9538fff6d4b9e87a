/-
  Base64 read: the package's and the reference's reading as plain functions; each gives back what was written.
-/
import Derived.Test.YtdmladdpbdcpjaaDoorCode
import Derived.Lib.TrimByte
namespace Go.Proofs.YtdmladdpbdcpjaaDoor

/-! ### the package's -/
def decGo : List UInt8 → Nat → Nat → List UInt8 → Option (List UInt8)
  | [], _, _, out => some out
  | c :: r, x, k, out => match place64 c with
    | none => none
    | some v => if 8 ≤ k + 6 then decGo r (x * 64 % 65536 + v) (k + 6 - 8) (out ++ [UInt8.ofNat ((x * 64 % 65536 + v) / 2 ^ (k + 6 - 8))]) else decGo r (x * 64 % 65536 + v) (k + 6) out
theorem decGo_one {c : UInt8} {r : List UInt8} {x k v : Nat} {out : List UInt8} (h : place64 c = some v) :
    decGo (c :: r) x k out = if 8 ≤ k + 6 then decGo r (x * 64 % 65536 + v) (k + 6 - 8) (out ++ [UInt8.ofNat ((x * 64 % 65536 + v) / 2 ^ (k + 6 - 8))]) else decGo r (x * 64 % 65536 + v) (k + 6) out := by
  rw [decGo, h]
theorem decGo_bad {c : UInt8} {r : List UInt8} {x k : Nat} {out : List UInt8} (h : place64 c = none) : decGo (c :: r) x k out = none := by rw [decGo, h]
theorem decGo_skip {v : Nat} (hv : v < 64) (r : List UInt8) (x k : Nat) (out : List UInt8) (hk : k + 6 < 8) : decGo (letter v :: r) x k out = decGo r (x * 64 % 65536 + v) (k + 6) out := by
  rw [decGo_one (place_letter v hv), if_neg (by omega)]
theorem decGo_take {v : Nat} (hv : v < 64) (r : List UInt8) (x k : Nat) (out : List UInt8) (hk : 8 ≤ k + 6) : decGo (letter v :: r) x k out = decGo r (x * 64 % 65536 + v) (k + 6 - 8) (out ++ [UInt8.ofNat ((x * 64 % 65536 + v) / 2 ^ (k + 6 - 8))]) := by
  rw [decGo_one (place_letter v hv), if_pos hk]
/-- the letters without the signs '=' -/
def b64t : List UInt8 → List UInt8
  | [] => []
  | [a] => (four (num3 a 0 0)).take 2
  | [a, b] => (four (num3 a b 0)).take 3
  | a :: b :: c :: r => four (num3 a b c) ++ b64t r
theorem byte_eq {n : Nat} {a : UInt8} (h : n % 256 = a.toNat) : UInt8.ofNat n = a := by
  apply UInt8.toNat_inj.1
  rw [UInt8.toNat_ofNat', ← h]
theorem dec_b64t : ∀ (b : List UInt8) (x : Nat) (out : List UInt8), decGo (b64t b) x 0 out = some (out ++ b)
  | [], x, out => by simp [b64t, decGo]
  | [a], x, out => by
    have ha := a.toNat_lt
    have hN : num3 a 0 0 = a.toNat * 65536 := by simp [num3]
    rw [b64t, hN, four]
    simp only [List.take_succ_cons, List.take_zero]
    rw [decGo_skip (by omega) _ _ _ _ (by omega), decGo_take (by omega) _ _ _ _ (by omega), decGo]
    congr 3
    refine byte_eq ?_
    simp only [Nat.reduceAdd, Nat.reduceSub, Nat.reducePow]
    omega
  | [a, b], x, out => by
    have ha := a.toNat_lt
    have hb := b.toNat_lt
    have hN : num3 a b 0 = a.toNat * 65536 + b.toNat * 256 := by simp [num3]
    rw [b64t, hN, four]
    simp only [List.take_succ_cons, List.take_zero]
    rw [decGo_skip (by omega) _ _ _ _ (by omega), decGo_take (by omega) _ _ _ _ (by omega), decGo_take (by omega) _ _ _ _ (by omega), decGo]
    rw [List.append_assoc]
    congr 2
    simp only [List.singleton_append, List.cons.injEq, and_true]
    refine ⟨byte_eq ?_, byte_eq ?_⟩
    · simp only [Nat.reduceAdd, Nat.reduceSub, Nat.reducePow]
      omega
    · simp only [Nat.reduceAdd, Nat.reduceSub, Nat.reducePow]
      omega
  | a :: b :: c :: r, x, out => by
    have ha := a.toNat_lt
    have hb := b.toNat_lt
    have hc := c.toNat_lt
    have hN : num3 a b c = a.toNat * 65536 + b.toNat * 256 + c.toNat := rfl
    rw [b64t, hN, four]
    simp only [List.cons_append, List.nil_append]
    rw [decGo_skip (by omega) _ _ _ _ (by omega), decGo_take (by omega) _ _ _ _ (by omega), decGo_take (by omega) _ _ _ _ (by omega), decGo_take (by omega) _ _ _ _ (by omega)]
    simp only [Nat.reduceAdd, Nat.reduceSub, Nat.reducePow, Nat.div_one]
    rw [dec_b64t r]
    simp only [List.append_assoc, List.singleton_append]
    rw [byte_eq (a := a) (by omega), byte_eq (a := b) (by omega), byte_eq (a := c) (by omega)]
    rfl
theorem four_ne (N : Nat) (h : N < 16777216) : ∀ c ∈ four N, c ≠ 61 := by
  intro c hc
  simp only [four, List.mem_cons, List.not_mem_nil, or_false] at hc
  rcases hc with rfl | rfl | rfl | rfl <;> exact letter_ne_eq _ (by omega)
theorem b64t_ne : ∀ b : List UInt8, ∀ c ∈ b64t b, c ≠ 61
  | [], c, h => by simp [b64t] at h
  | [a], c, h => four_ne _ (num3_lt a 0 0) c (List.mem_of_mem_take h)
  | [a, b], c, h => four_ne _ (num3_lt a b 0) c (List.mem_of_mem_take h)
  | a :: b :: c' :: r, c, h => by
    rw [b64t, List.mem_append] at h
    rcases h with h | h
    · exact four_ne _ (num3_lt a b c') c h
    · exact b64t_ne r c h
theorem b64_parts : ∀ b : List UInt8, ∃ k, b64 b = b64t b ++ List.replicate k 61
  | [] => ⟨0, rfl⟩
  | [a] => ⟨2, rfl⟩
  | [a, b] => ⟨1, rfl⟩
  | a :: b :: c :: r => by
    obtain ⟨k, hk⟩ := b64_parts r
    exact ⟨k, by rw [b64, hk, b64t, List.append_assoc]⟩
theorem dropWhile_rep (k : Nat) (X : List UInt8) (h : ∀ c ∈ X, c ≠ 61) : (List.replicate k (61 : UInt8) ++ X).dropWhile (· == 61) = X := by
  induction k with
  | zero =>
    cases X with
    | nil => rfl
    | cons y r =>
      have := h y (by simp)
      simp [this]
  | succ k ih => simpa [List.replicate_succ] using ih
theorem trim_b64 (b : List UInt8) : Lib.trimRightB (b64 b) 61 = b64t b := by
  obtain ⟨k, hk⟩ := b64_parts b
  unfold Lib.trimRightB
  rw [hk, List.reverse_append, List.reverse_replicate, dropWhile_rep _ _ (fun c hc => b64t_ne b c (by simpa using hc)), List.reverse_reverse]
theorem dec_b64 (b : List UInt8) : decGo (Lib.trimRightB (b64 b) 61) 0 0 [] = some b := by
  rw [trim_b64, dec_b64t]
  rfl

/-! ### the reference's -/
def placeN (c : UInt8) : Nat := (place64 c).getD 0
def num4 (a b c d : UInt8) : Nat := ((placeN a * 64 + placeN b) * 64 + placeN c) * 64 + placeN d
def three (n : Nat) : List UInt8 := [UInt8.ofNat (n / 65536), UInt8.ofNat (n / 256), UInt8.ofNat n]
def unfour : List UInt8 → List UInt8
  | a :: b :: c :: d :: r => three (num4 a b c d) ++ unfour r
  | _ => []
/-- how many signs '=' end it, two at most -/
def ends2 (s : List UInt8) : Nat := if s.getLast? = some 61 then (if s.dropLast.getLast? = some 61 then 2 else 1) else 0
def decRef (s : List UInt8) : List UInt8 := (unfour s).take ((unfour s).length - ends2 s)
theorem placeN_letter {v : Nat} (h : v < 64) : placeN (letter v) = v := by rw [placeN, place_letter v h]; rfl
theorem placeN_eq : placeN 61 = 0 := by rw [placeN, place_eq]; rfl
theorem getLast_app {X Y : List UInt8} (h : Y ≠ []) : (X ++ Y).getLast? = Y.getLast? := by
  rw [List.getLast?_append]
  cases hY : Y.getLast? with
  | none => exact absurd (List.getLast?_eq_none_iff.1 hY) h
  | some y => rfl
theorem ends2_append (X Y : List UInt8) (h : 2 ≤ Y.length) : ends2 (X ++ Y) = ends2 Y := by
  have h1 : Y ≠ [] := by intro e; simp [e] at h
  have h2 : Y.dropLast ≠ [] := by intro e; have := congrArg List.length e; simp at this; omega
  unfold ends2
  rw [getLast_app h1, List.dropLast_append_of_ne_nil h1, getLast_app h2]
theorem unfour_length : ∀ s : List UInt8, s.length % 4 = 0 → (unfour s).length = s.length / 4 * 3
  | [], _ => rfl
  | [_], h => by simp at h
  | [_, _], h => by simp at h
  | [_, _, _], h => by simp at h
  | a :: b :: c :: d :: r, h => by
    rw [unfour, List.length_append, unfour_length r (by simp at h; omega)]
    simp [three]
    omega
theorem four_un (N : Nat) (hN : N < 16777216) : ∃ p q r s, four N = [p, q, r, s] ∧ num4 p q r s = N := by
  refine ⟨_, _, _, _, rfl, ?_⟩
  unfold num4
  rw [placeN_letter (by omega), placeN_letter (by omega), placeN_letter (by omega), placeN_letter (by omega)]
  omega
theorem three_num3 (a b c : UInt8) : three (num3 a b c) = [a, b, c] := by
  have ha := a.toNat_lt; have hb := b.toNat_lt; have hc := c.toNat_lt
  have hN : num3 a b c = a.toNat * 65536 + b.toNat * 256 + c.toNat := rfl
  unfold three
  rw [hN, byte_eq (a := a) (by omega), byte_eq (a := b) (by omega), byte_eq (a := c) (by omega)]
theorem letter_last {v : Nat} (h : v < 64) : (letter v = 61) = False := by
  simp only [eq_iff_iff, iff_false]
  exact letter_ne_eq v h
theorem dec_ref : ∀ b : List UInt8, decRef (b64 b) = b
  | [] => rfl
  | [a] => by
    have hN := num3_lt a 0 0
    have h0 : num3 a 0 0 = a.toNat * 65536 := by simp [num3]
    have ha := a.toNat_lt
    have e : b64 [a] = [letter (num3 a 0 0 / 262144), letter (num3 a 0 0 / 4096 % 64), 61, 61] := rfl
    have hn : num4 (letter (num3 a 0 0 / 262144)) (letter (num3 a 0 0 / 4096 % 64)) 61 61 = num3 a 0 0 := by
      unfold num4
      rw [placeN_letter (by omega), placeN_letter (by omega), placeN_eq]
      omega
    unfold decRef
    rw [e]
    simp only [unfour, hn, List.append_nil, three_num3]
    simp [ends2]
  | [a, b] => by
    have hN := num3_lt a b 0
    have h0 : num3 a b 0 = a.toNat * 65536 + b.toNat * 256 := by simp [num3]
    have ha := a.toNat_lt
    have hb := b.toNat_lt
    have e : b64 [a, b] = [letter (num3 a b 0 / 262144), letter (num3 a b 0 / 4096 % 64), letter (num3 a b 0 / 64 % 64), 61] := rfl
    have hn : num4 (letter (num3 a b 0 / 262144)) (letter (num3 a b 0 / 4096 % 64)) (letter (num3 a b 0 / 64 % 64)) 61 = num3 a b 0 := by
      unfold num4
      rw [placeN_letter (by omega), placeN_letter (by omega), placeN_letter (by omega), placeN_eq]
      omega
    unfold decRef
    rw [e]
    simp only [unfour, hn, List.append_nil, three_num3]
    simp [ends2, letter_last (show num3 a b 0 / 64 % 64 < 64 by omega)]
  | a :: b :: c :: r => by
    have ih := dec_ref r
    obtain ⟨p, q, s, t, h4, hn⟩ := four_un _ (num3_lt a b c)
    have hl := b64_length r
    unfold decRef at ih ⊢
    rw [b64, h4]
    simp only [List.cons_append, List.nil_append, unfour, hn, three_num3, List.length_cons]
    cases r with
    | nil =>
      have hd : ∀ v ∈ [p, q, s, t], v ≠ 61 := by rw [← h4]; exact four_ne _ (num3_lt a b c)
      have ht : t ≠ 61 := hd t (by simp)
      simp [b64, unfour, ends2, ht]
    | cons x r' =>
      have h2 : 2 ≤ (b64 (x :: r')).length := by rw [hl]; simp; omega
      have he : ends2 (p :: q :: s :: t :: b64 (x :: r')) = ends2 (b64 (x :: r')) := ends2_append [p, q, s, t] _ h2
      rw [he]
      have hu : ends2 (b64 (x :: r')) ≤ (unfour (b64 (x :: r'))).length := by
        rw [unfour_length _ (by rw [hl]; omega)]
        have : ends2 (b64 (x :: r')) ≤ 2 := by unfold ends2; split <;> (try split) <;> omega
        have : 1 ≤ (b64 (x :: r')).length / 4 := by rw [hl]; simp; omega
        omega
      rw [show (unfour (b64 (x :: r'))).length + 1 + 1 + 1 - ends2 (b64 (x :: r')) = ((unfour (b64 (x :: r'))).length - ends2 (b64 (x :: r'))) + 1 + 1 + 1 by omega]
      simp only [List.take_succ_cons]
      rw [ih]
end Go.Proofs.YtdmladdpbdcpjaaDoor
