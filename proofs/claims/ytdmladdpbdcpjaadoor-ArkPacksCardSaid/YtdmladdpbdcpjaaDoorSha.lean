/-
  SHA-256 and CRC-32 as plain functions of bytes.
-/
import Derived.Laws.BitsAllLaws
namespace Go.Proofs.YtdmladdpbdcpjaaDoor

/-! ### SHA-256 -/
def add32 (a b : Nat) : Nat := (a + b) % 4294967296
def rotr (x n : Nat) : Nat := x * 2 ^ (32 - n) % 4294967296 ||| x / 2 ^ n
def low0 (x : Nat) : Nat := rotr x 7 ^^^ rotr x 18 ^^^ x / 8
def low1 (x : Nat) : Nat := rotr x 17 ^^^ rotr x 19 ^^^ x / 1024
def big0 (x : Nat) : Nat := rotr x 2 ^^^ rotr x 13 ^^^ rotr x 22
def big1 (x : Nat) : Nat := rotr x 6 ^^^ rotr x 11 ^^^ rotr x 25
def chose (e f g : Nat) : Nat := (e &&& f) ^^^ ((4294967295 - e) &&& g)
def most (a b c : Nat) : Nat := (a &&& b) ^^^ (a &&& c) ^^^ (b &&& c)
def shaK : List Nat := [
  0x428a2f98, 0x71374491, 0xb5c0fbcf, 0xe9b5dba5, 0x3956c25b, 0x59f111f1, 0x923f82a4, 0xab1c5ed5,
  0xd807aa98, 0x12835b01, 0x243185be, 0x550c7dc3, 0x72be5d74, 0x80deb1fe, 0x9bdc06a7, 0xc19bf174,
  0xe49b69c1, 0xefbe4786, 0x0fc19dc6, 0x240ca1cc, 0x2de92c6f, 0x4a7484aa, 0x5cb0a9dc, 0x76f988da,
  0x983e5152, 0xa831c66d, 0xb00327c8, 0xbf597fc7, 0xc6e00bf3, 0xd5a79147, 0x06ca6351, 0x14292967,
  0x27b70a85, 0x2e1b2138, 0x4d2c6dfc, 0x53380d13, 0x650a7354, 0x766a0abb, 0x81c2c92e, 0x92722c85,
  0xa2bfe8a1, 0xa81a664b, 0xc24b8b70, 0xc76c51a3, 0xd192e819, 0xd6990624, 0xf40e3585, 0x106aa070,
  0x19a4c116, 0x1e376c08, 0x2748774c, 0x34b0bcb5, 0x391c0cb3, 0x4ed8aa4a, 0x5b9cca4f, 0x682e6ff3,
  0x748f82ee, 0x78a5636f, 0x84c87814, 0x8cc70208, 0x90befffa, 0xa4506ceb, 0xbef9a3f7, 0xc67178f2]
def shaH : List Nat := [0x6a09e667, 0xbb67ae85, 0x3c6ef372, 0xa54ff53a, 0x510e527f, 0x9b05688c, 0x1f83d9ab, 0x5be0cd19]
def word (b : List UInt8) (i : Nat) : Nat := (((b.getD (4 * i) 0).toNat * 16777216 ||| (b.getD (4 * i + 1) 0).toNat * 65536) ||| (b.getD (4 * i + 2) 0).toNat * 256) ||| (b.getD (4 * i + 3) 0).toNat
/-- the number at place i of a block's schedule, those ahead of it known -/
def nextW (b : List UInt8) (w : List Nat) : Nat :=
  if w.length < 16 then word b w.length
  else add32 (add32 (add32 (w.getD (w.length - 16) 0) (low0 (w.getD (w.length - 15) 0))) (w.getD (w.length - 7) 0)) (low1 (w.getD (w.length - 2) 0))
def sched (b : List UInt8) : Nat → List Nat
  | 0 => []
  | n + 1 => sched b n ++ [nextW b (sched b n)]
def roundW (x : List Nat) (k w : Nat) : List Nat :=
  let t1 := add32 (add32 (add32 (add32 (x.getD 7 0) (big1 (x.getD 4 0))) (chose (x.getD 4 0) (x.getD 5 0) (x.getD 6 0))) k) w
  [add32 (add32 t1 (big0 (x.getD 0 0))) (most (x.getD 0 0) (x.getD 1 0) (x.getD 2 0)), x.getD 0 0, x.getD 1 0, x.getD 2 0, add32 (x.getD 3 0) t1, x.getD 4 0, x.getD 5 0, x.getD 6 0]
def rounds (w : List Nat) (x : List Nat) : Nat → List Nat
  | 0 => x
  | n + 1 => roundW (rounds w x n) (shaK.getD n 0) (w.getD n 0)
def compress (s : List Nat) (b : List UInt8) : List Nat := List.zipWith add32 (rounds (sched b 64) s 64) s
/-- the blocks of b, n of them, one behind the other -/
def blocks (s : List Nat) (b : List UInt8) : Nat → List Nat
  | 0 => s
  | n + 1 => compress (blocks s b n) ((b.drop (64 * n)).take 64)
def be64 (n : Nat) : List UInt8 := (List.range 8).map fun i => UInt8.ofNat (n / 2 ^ (56 - 8 * i))
def zerosFor (n : Nat) : Nat := (55 + 64 - n % 64) % 64
def padded (b : List UInt8) : List UInt8 := b ++ [0x80] ++ List.replicate (zerosFor b.length) 0 ++ be64 (8 * b.length)
def wordBytes (x : Nat) : List UInt8 := [UInt8.ofNat (x / 16777216), UInt8.ofNat (x / 65536), UInt8.ofNat (x / 256), UInt8.ofNat x]
def sha (b : List UInt8) : List UInt8 := (blocks shaH (padded b) ((padded b).length / 64)).flatMap wordBytes

/-! ### CRC-32 -/
def crcBit (c : Nat) : Nat := if c % 2 = 1 then c / 2 ^^^ 0xedb88320 else c / 2
def crcByte (c : Nat) (x : UInt8) : Nat := crcBit (crcBit (crcBit (crcBit (crcBit (crcBit (crcBit (crcBit (c ^^^ x.toNat))))))))
def crcOf (b : List UInt8) : Nat := 4294967295 - b.foldl crcByte 4294967295

theorem sha_abc : sha [97, 98, 99] = [0xba, 0x78, 0x16, 0xbf, 0x8f, 0x01, 0xcf, 0xea, 0x41, 0x41, 0x40, 0xde, 0x5d, 0xae, 0x22, 0x23, 0xb0, 0x03, 0x61, 0xa3, 0x96, 0x17, 0x7a, 0x9c, 0xb4, 0x10, 0xff, 0x61, 0xf2, 0x00, 0x15, 0xad] := by decide +kernel
theorem crc_abc : crcOf [97, 98, 99] = 0x352441c2 := by decide +kernel

theorem blocks_add (s : List Nat) (b : List UInt8) (n : Nat) : ∀ m, blocks s b (n + m) = blocks (blocks s b n) (b.drop (64 * n)) m
  | 0 => rfl
  | m + 1 => by
    rw [← Nat.add_assoc, blocks, blocks, blocks_add s b n m, List.drop_drop]
    congr 3
    omega
theorem blocks_front (s : List Nat) (b c : List UInt8) : ∀ n, 64 * n ≤ b.length → blocks s (b ++ c) n = blocks s b n
  | 0, _ => rfl
  | n + 1, h => by
    rw [blocks, blocks, blocks_front s b c n (by omega), List.drop_append_of_le_length (by omega), List.take_append_of_le_length (by simp; omega)]
/-- the last blocks alone, behind the whole ones -/
theorem sha_parts (b : List UInt8) (n : Nat) (hn : 64 * n ≤ b.length) (t : List UInt8) (ht : b ++ t = padded b) (m : Nat) (hm : (b.drop (64 * n) ++ t).length = 64 * m) :
    sha b = (blocks (blocks shaH b n) (b.drop (64 * n) ++ t) m).flatMap wordBytes := by
  unfold sha
  have hl : (padded b).length = 64 * (n + m) := by
    rw [← ht]
    simp at hm ⊢
    omega
  rw [hl, Nat.mul_div_cancel_left _ (by omega), blocks_add, ← ht, blocks_front _ _ _ _ hn, List.drop_append_of_le_length hn]
theorem be64_length (n : Nat) : (be64 n).length = 8 := by simp [be64]
theorem padded_length (b : List UInt8) : (padded b).length % 64 = 0 := by
  simp only [padded, List.length_append, List.length_replicate, be64_length, List.length_cons, List.length_nil, zerosFor]
  omega
theorem sched_length (b : List UInt8) : ∀ n, (sched b n).length = n
  | 0 => rfl
  | n + 1 => by simp [sched, sched_length b n]
theorem sched_getD (b : List UInt8) {n i : Nat} (h : i < n) : (sched b n).getD i 0 = nextW b (sched b i) := by
  induction n with
  | zero => omega
  | succ n ih =>
    rw [sched]
    by_cases hi : i < n
    · rw [List.getD_eq_getElem?_getD, List.getElem?_append_left (by rw [sched_length]; exact hi), ← List.getD_eq_getElem?_getD]
      exact ih hi
    · obtain rfl : i = n := by omega
      rw [List.getD_eq_getElem?_getD, List.getElem?_append_right (by rw [sched_length]; exact Nat.le_refl _), sched_length]
      simp
theorem roundW_length (x : List Nat) (k w : Nat) : (roundW x k w).length = 8 := rfl
theorem rounds_length (w x : List Nat) (hx : x.length = 8) : ∀ n, (rounds w x n).length = 8
  | 0 => hx
  | _ + 1 => roundW_length _ _ _
theorem compress_length (s : List Nat) (b : List UInt8) (hs : s.length = 8) : (compress s b).length = 8 := by
  unfold compress
  rw [List.length_zipWith, rounds_length _ _ hs, hs]
  rfl
theorem blocks_length (s : List Nat) (b : List UInt8) (hs : s.length = 8) : ∀ n, (blocks s b n).length = 8
  | 0 => hs
  | n + 1 => compress_length _ _ (blocks_length s b hs n)
theorem add32_comm (a b : Nat) : add32 a b = add32 b a := by unfold add32; rw [Nat.add_comm]
/-! ### every number fits in 32 bits -/
theorem add32_lt (a b : Nat) : add32 a b < 4294967296 := Nat.mod_lt _ (by decide)
theorem rotr_lt {x : Nat} (h : x < 4294967296) (n : Nat) : rotr x n < 4294967296 := by
  unfold rotr
  refine Nat.or_lt_two_pow (n := 32) (Nat.mod_lt _ (by decide)) ?_
  exact Nat.lt_of_le_of_lt (Nat.div_le_self _ _) h
theorem xor_lt {a b : Nat} (ha : a < 4294967296) (hb : b < 4294967296) : a ^^^ b < 4294967296 := Nat.xor_lt_two_pow (n := 32) ha hb
theorem and_lt {a b : Nat} (hb : b < 4294967296) : a &&& b < 4294967296 := Nat.and_lt_two_pow (n := 32) a hb
theorem div_lt {x : Nat} (h : x < 4294967296) (n : Nat) : x / n < 4294967296 := Nat.lt_of_le_of_lt (Nat.div_le_self _ _) h
theorem low0_lt {x : Nat} (h : x < 4294967296) : low0 x < 4294967296 := xor_lt (xor_lt (rotr_lt h _) (rotr_lt h _)) (div_lt h _)
theorem low1_lt {x : Nat} (h : x < 4294967296) : low1 x < 4294967296 := xor_lt (xor_lt (rotr_lt h _) (rotr_lt h _)) (div_lt h _)
theorem big0_lt {x : Nat} (h : x < 4294967296) : big0 x < 4294967296 := xor_lt (xor_lt (rotr_lt h _) (rotr_lt h _)) (rotr_lt h _)
theorem big1_lt {x : Nat} (h : x < 4294967296) : big1 x < 4294967296 := xor_lt (xor_lt (rotr_lt h _) (rotr_lt h _)) (rotr_lt h _)
theorem chose_lt {e f g : Nat} (hf : f < 4294967296) (hg : g < 4294967296) : chose e f g < 4294967296 := xor_lt (and_lt hf) (and_lt hg)
theorem most_lt {a b c : Nat} (hb : b < 4294967296) (hc : c < 4294967296) : most a b c < 4294967296 := xor_lt (xor_lt (and_lt hb) (and_lt hc)) (and_lt hc)
def Fit (l : List Nat) : Prop := ∀ x ∈ l, x < 4294967296
theorem Fit.getD {l : List Nat} (h : Fit l) (i : Nat) : l.getD i 0 < 4294967296 := by
  rw [List.getD_eq_getElem?_getD]
  cases hi : l[i]? with
  | none => decide
  | some x => exact h x (List.mem_of_getElem? hi)
theorem word_lt (b : List UInt8) (i : Nat) : word b i < 4294967296 := by
  have h : ∀ x : UInt8, x.toNat < 256 := fun x => x.toNat_lt
  unfold word
  refine Nat.or_lt_two_pow (n := 32) (Nat.or_lt_two_pow (n := 32) (Nat.or_lt_two_pow (n := 32) ?_ ?_) ?_) ?_
  · have := h (b.getD (4 * i) 0); omega
  · have := h (b.getD (4 * i + 1) 0); omega
  · have := h (b.getD (4 * i + 2) 0); omega
  · have := h (b.getD (4 * i + 3) 0); omega
theorem nextW_lt (b : List UInt8) (w : List Nat) : nextW b w < 4294967296 := by
  unfold nextW
  split
  · exact word_lt _ _
  · exact add32_lt _ _
theorem sched_fit (b : List UInt8) : ∀ n, Fit (sched b n)
  | 0 => fun x hx => by simp [sched] at hx
  | n + 1 => fun x hx => by
    rw [sched, List.mem_append] at hx
    rcases hx with hx | hx
    · exact sched_fit b n x hx
    · simp at hx; subst hx; exact nextW_lt _ _
theorem roundW_fit {x : List Nat} (h : Fit x) (k w : Nat) : Fit (roundW x k w) := by
  intro y hy
  unfold roundW at hy
  simp only [List.mem_cons, List.not_mem_nil, or_false] at hy
  rcases hy with rfl | rfl | rfl | rfl | rfl | rfl | rfl | rfl
  all_goals first | exact add32_lt _ _ | exact h.getD _
theorem rounds_fit (w : List Nat) {x : List Nat} (h : Fit x) : ∀ n, Fit (rounds w x n)
  | 0 => h
  | n + 1 => roundW_fit (rounds_fit w h n) _ _
theorem zip_fit : ∀ (a b : List Nat), Fit (List.zipWith add32 a b)
  | [], _ => fun x hx => by simp at hx
  | _ :: _, [] => fun x hx => by simp at hx
  | a :: l, b :: m => fun x hx => by
    rw [List.zipWith_cons_cons, List.mem_cons] at hx
    rcases hx with rfl | hx
    · exact add32_lt _ _
    · exact zip_fit l m x hx
theorem blocks_fit {s : List Nat} (h : Fit s) (b : List UInt8) : ∀ n, Fit (blocks s b n)
  | 0 => h
  | _ + 1 => zip_fit _ _
theorem shaH_fit : Fit shaH := by unfold Fit; decide
theorem shaK_fit : Fit shaK := by unfold Fit; decide
end Go.Proofs.YtdmladdpbdcpjaaDoor
