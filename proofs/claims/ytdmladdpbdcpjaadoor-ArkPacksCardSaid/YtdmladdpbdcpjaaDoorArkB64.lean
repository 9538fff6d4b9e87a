/-
  Base64: the package's.
-/
import Derived.Test.YtdmladdpbdcpjaaDoorArkHexes
import Derived.Laws.CopyOwn
namespace Go.Proofs.YtdmladdpbdcpjaaDoor
open Go.RowKit

attribute [local go_sem] lt1 lt2 lt3 lt4 lt5 lt6

/-- four letters of three bytes, of which n are there -/
def quad (n N : Nat) : List UInt8 := (List.range 4).map fun i => if n < i then 61 else letter (N / 2 ^ (18 - 6 * i) % 64)
theorem quad1 (N : Nat) (h : N < 16777216) : quad 1 N = (four N).take 2 ++ [61, 61] := by
  have e : N / 262144 % 64 = N / 262144 := Nat.mod_eq_of_lt (by omega)
  simp [quad, four, List.range_succ, e]
theorem quad2 (N : Nat) (h : N < 16777216) : quad 2 N = (four N).take 3 ++ [61] := by
  have e : N / 262144 % 64 = N / 262144 := Nat.mod_eq_of_lt (by omega)
  simp [quad, four, List.range_succ, e]
theorem quad3 (N : Nat) (h : N < 16777216) : quad 3 N = four N := by
  have e : N / 262144 % 64 = N / 262144 := Nat.mod_eq_of_lt (by omega)
  simp [quad, four, List.range_succ, e]
theorem b64_step (r : List UInt8) (h : 0 < r.length) : b64 r = quad (min r.length 3) (num3 (r.getD 0 0) (r.getD 1 0) (r.getD 2 0)) ++ b64 (r.drop (min r.length 3)) := by
  match r, h with
  | [a], _ => simp [b64, quad1 _ (num3_lt a 0 0)]
  | [a, b], _ => simp [b64, quad2 _ (num3_lt a b 0)]
  | a :: b :: c :: r, _ => simp [b64, quad3 _ (num3_lt a b c), show min (r.length + 1 + 1 + 1) 3 = 3 by omega]
def B64Rel (w : World) (b : List UInt8) (v : Value) (wr : World) : Prop := ∃ r A c T, v = .slice A r.length c ∧ r.length ≤ b.length ∧ Bs w A c r ∧ T ++ b64 r = b64 b ∧ Bld w T wr

theorem Bld.grown {w wr wx : World} {l : List UInt8} (h : Bld w l wr) (hb : Below wr.heap.size wr wx) : Bld w l wx := by
  refine ⟨?_, h.2.trans (hb.mono h.2.size)⟩
  have key : ∀ p, Lib.BuilderAt 99 5 w.heap.size w.heap.size p (u8s l) wr → Lib.BuilderAt 99 5 w.heap.size w.heap.size p (u8s l) wx := by
    rintro p ⟨h1, v, hv, hown, hne⟩
    exact ⟨h1, v, (hb.block _ (lt_of_heap hv)).trans hv, own_keep hown fun g cs hg => (hb.block g (lt_of_heap hg)).trans hg, hne⟩
  rcases h.1 with hk | hk
  · exact .inl (key _ hk)
  · exact .inr (key _ hk)
theorem splice3 {r : List UInt8} {n : Nat} (hn : n = min r.length 3) : splice [Value.int .u8 0, .int .u8 0, .int .u8 0] 0 (u8s (r.take n)) = u8s [r.getD 0 0, r.getD 1 0, r.getD 2 0] := by
  match r, hn with
  | [], h => subst h; simp [splice, u8s]
  | [a], h => obtain rfl : n = 1 := by simpa using h
              simp [splice, u8s]
  | [a, b], h => obtain rfl : n = 2 := by simpa using h
                 simp [splice, u8s]
  | a :: b :: c :: r, h => obtain rfl : n = 3 := by simp at h; omega
                           simp [splice, u8s]
theorem num3_int (a b c : UInt8) : bits .or .i64 (bits .or .i64 (wrap64 (wrap64 (a.toNat : Int) * 65536)) (wrap64 (wrap64 (b.toNat : Int) * 256))) (wrap64 (c.toNat : Int)) = ((num3 a b c : Nat) : Int) := by
  have h1 := a.toNat_lt; have h2 := b.toNat_lt; have h3 := c.toNat_lt
  have e1 : wrap64 (wrap64 (a.toNat : Int) * 65536) = ((a.toNat * 65536 : Nat) : Int) := by unfold wrap64; omega
  have e2 : wrap64 (wrap64 (b.toNat : Int) * 256) = ((b.toNat * 256 : Nat) : Int) := by unfold wrap64; omega
  have e3 : wrap64 (c.toNat : Int) = ((c.toNat : Nat) : Int) := by unfold wrap64; omega
  have l := Nat.or_lt_two_pow (n := 62) (x := a.toNat * 65536) (y := b.toNat * 256) (by omega) (by omega)
  rw [e1, e2, e3, i64_or_nat _ _ (by omega) (by omega), i64_or_nat _ _ l (by omega), num3_or]
theorem Bld.drewN {w wr : World} {l : List UInt8} (h : Bld w l wr) (n : Nat) : Bld w l (wr.drewN n) := h.grown ⟨rfl, rfl, rfl, Nat.le_refl _, fun _ _ => rfl⟩
def QuadRel (w : World) (T : List UInt8) (n N : Nat) (iv : Value) (wr : World) : Prop := ∃ i, i ≤ 4 ∧ iv = .int .i64 (i : Nat) ∧ Bld w (T ++ (quad n N).take i) wr
theorem letterAt0 : ∀ m, m < 64 → (#[65, 66, 67, 68, 69, 70, 71, 72, 73, 74, 75, 76, 77, 78, 79, 80, 81, 82, 83, 84, 85, 86, 87, 88, 89, 90, 97, 98, 99, 100, 101, 102, 103, 104, 105, 106, 107, 108, 109, 110, 111, 112, 113, 114, 115, 116, 117, 118, 119, 120, 121, 122, 48, 49, 50, 51, 52, 53, 54, 55, 56, 57, 43, 47] : Array UInt8).getD m 0 = letter m := by decide +kernel
theorem letterAt {m : Nat} (hm : m < 64) (hb : m < (ByteArray.mk #[65, 66, 67, 68, 69, 70, 71, 72, 73, 74, 75, 76, 77, 78, 79, 80, 81, 82, 83, 84, 85, 86, 87, 88, 89, 90, 97, 98, 99, 100, 101, 102, 103, 104, 105, 106, 107, 108, 109, 110, 111, 112, 113, 114, 115, 116, 117, 118, 119, 120, 121, 122, 48, 49, 50, 51, 52, 53, 54, 55, 56, 57, 43, 47]).size) : (ByteArray.mk #[65, 66, 67, 68, 69, 70, 71, 72, 73, 74, 75, 76, 77, 78, 79, 80, 81, 82, 83, 84, 85, 86, 87, 88, 89, 90, 97, 98, 99, 100, 101, 102, 103, 104, 105, 106, 107, 108, 109, 110, 111, 112, 113, 114, 115, 116, 117, 118, 119, 120, 121, 122, 48, 49, 50, 51, 52, 53, 54, 55, 56, 57, 43, 47])[m]'hb = letter m := by
  rw [← letterAt0 m hm]
  show (#[65, 66, 67, 68, 69, 70, 71, 72, 73, 74, 75, 76, 77, 78, 79, 80, 81, 82, 83, 84, 85, 86, 87, 88, 89, 90, 97, 98, 99, 100, 101, 102, 103, 104, 105, 106, 107, 108, 109, 110, 111, 112, 113, 114, 115, 116, 117, 118, 119, 120, 121, 122, 48, 49, 50, 51, 52, 53, 54, 55, 56, 57, 43, 47] : Array UInt8)[m]'hb = _
  simp [Array.getD, hm]
theorem and63 (N k : Nat) (hN : N < 16777216) : bits .and .i64 ((N : Int) / 2 ^ k) 63 = ((N / 2 ^ k % 64 : Nat) : Int) := by
  have e : (N : Int) / 2 ^ k = ((N / 2 ^ k : Nat) : Int) := by rw [Int.natCast_ediv, Int.natCast_pow]; rfl
  have hl : N / 2 ^ k ≤ N := Nat.div_le_self _ _
  have := i64_and_nat (N / 2 ^ k) 63 (by omega) (by omega)
  rw [nat_mask6] at this
  rw [e]
  exact this
theorem quad_take (n N : Nat) {i : Nat} (h : i < 4) : (quad n N).take (i + 1) = (quad n N).take i ++ [if n < i then 61 else letter (N / 2 ^ (18 - 6 * i) % 64)] := by
  rw [List.take_succ_eq_append_getElem (by simp [quad]; exact h)]
  simp [quad]
theorem quad_length (n N : Nat) : (quad n N).length = 4 := by simp [quad]
theorem quad_step {w wr : World} {T : List UInt8} {n N i : Nat} (h : i < 4) (hb : Bld w (T ++ (quad n N).take i ++ [if n < i then 61 else letter (N / 2 ^ (18 - 6 * i) % 64)]) wr) : QuadRel w T n N (.int .i64 ((i : Int) + 1)) wr :=
  ⟨i + 1, by omega, rfl, by rw [quad_take n N h, ← List.append_assoc]; exact hb⟩
theorem make3 : ∀ w : World, (Instr.makeSlice 28 (.int .i64 3) (.int .i64 3)).run Tryd.prog w = .ok (.slice (some ⟨w.heap.size, 0, none⟩) 3 3) (w.alloc (.cells #[.int .u8 0, .int .u8 0, .int .u8 0] 5)) := fun _ => by kernel_rfl
set_option maxHeartbeats 2000000 in
set_option maxRecDepth 100000 in
theorem base64_any (w : World) (b : List UInt8) (A : Option Addr) (c : Nat) (hb : Bs w A c b) (hl : b.length ≤ 1048576) :
    Calls Tryd.prog 39 #[.slice A b.length c] w fun e w' => e = .returned (.string ⟨(b64 b).toArray⟩) ∧ Below w.heap.size w w' := by
  have Hb := Lib.hid hb
  clear hb
  go_enter Tryd.func39, Tryd.ntmps39
  go_wp2_with fail
  have H0 := Lib.hid (Bld.fresh w)
  go_loopw [0] (fun v wr => B64Rel w b v wr) (fun v _ => lenOf v)
  case atStart => exact ⟨b, A, c, [], rfl, Nat.le_refl _, Hb.out, rfl, H0.out⟩
  case round =>
    obtain ⟨r, Ar, cr, T, rfl, hr, hbs, hT, hbld⟩ := hrel
    have Hbs := Lib.hid hbs
    have HT := Lib.hid hT
    have Hbld := Lib.hid hbld
    have hrc := hbs.le
    have hTl : T.length ≤ 4194304 := by
      have h1 := congrArg List.length hT
      rw [List.length_append, b64_length, b64_length] at h1
      omega
    clear hbs hT hbld
    by_cases hlt : 0 < r.length
    · obtain ⟨bb, oo, rfl, _⟩ := Hbs.out.at_ hlt
      have hstep := b64_step r hlt
      obtain ⟨n, hn⟩ : ∃ n, n = min r.length 3 := ⟨_, rfl⟩
      have hm : min (r.length : Int) 3 = (n : Int) := by omega
      have hmk := make3
      have hn0 : 0 < n := by omega
      have hn3 : n ≤ 3 := by omega
      have hnr : n ≤ r.length := by omega
      have hnc : (n : Int) ≤ cr := by omega
      have hc0 : ¬ cr = 0 := by omega
      rw [← hn] at hstep
      have Hstep := Lib.hid hstep
      have Hn := Lib.hid hn
      clear hn hstep
      have Hsrc : Hid (∀ (o' : Obj) (j : Nat) v, (u8s (r.take n))[j]? = some v → (wr.alloc o').cell? ⟨bb, oo + j, none⟩ = some v) := Lib.hid (by
        intro o' j v hv
        obtain ⟨b2, o2, he, hx⟩ := Hbs.out.cells (by omega)
        simp only [Option.some.injEq, Addr.mk.injEq] at he
        obtain ⟨rfl, rfl, _⟩ := he
        have hj : j < n := by have := (List.getElem?_eq_some_iff.1 hv).1; simp [u8s] at this; omega
        refine Cells.alloc _ _ _ _ (Cells.of_below Hbld.out.2 _ _ ((hx j (by omega)).trans ?_))
        rw [← hv]
        simp [u8s, hj])
      go_wp2_with (with_reducible refine wpList_copy_splice rfl (.tmp 15) (.tmp 18) 28 28 rfl 5 Tryd.underlying28 (by kernel_rfl) _ _ _ _ _ _ rfl rfl wr.heap.size 0 [.int .u8 0, .int .u8 0, .int .u8 0] 5 (heap_alloc_new wr _) (u8s (r.take n)) ?h1 ?h2 ?h3 (u8s_one _) wr.heap.size wr ?h4 (Nat.le_refl _) ?_)
      case h1 => rw [u8s_length, List.length_take]; show min n r.length = min n 3; omega
      case h2 => simpa using fun _ => Hsrc.out _
      case h3 => simp [u8s]; omega
      case h4 => exact (Below.refl _ _).alloc (Nat.le_refl _) _
      intro w2 hG hB2
      rw [splice3 Hn.out] at hG
      obtain ⟨g0, hg0⟩ : ∃ x, x = r.getD 0 0 := ⟨_, rfl⟩
      obtain ⟨g1, hg1⟩ : ∃ x, x = r.getD 1 0 := ⟨_, rfl⟩
      obtain ⟨g2, hg2⟩ : ∃ x, x = r.getD 2 0 := ⟨_, rfl⟩
      rw [← hg0, ← hg1, ← hg2] at hG Hstep
      have cg := blk_cells hG.out
      simp only [u8s, List.map_cons, List.map_nil] at cg
      have cg1 := cg.1
      have Hbld2 := Lib.hid (Hbld.out.grown hB2)
      clear cg hG hg0 hg1 hg2 hB2 Hsrc Hbld
      have hx := num3_int g0 g1 g2
      have hN := num3_lt g0 g1 g2
      go_wp2_with fail
      go_quiet (fail)
      generalize num3 g0 g1 g2 = N at *
      clear hx cg1
      go_wp2_with fail
      have HB0 : Hid (QuadRel w T n N (.int .i64 0) (w2.drewN nq)) := Lib.hid ⟨0, by omega, rfl, by simpa using Hbld2.out.drewN nq⟩
      generalize w2.drewN nq = w3 at *
      go_loopw [36] (fun iv wr => QuadRel w T n N iv wr) (fun iv _ => 4 - (intOf iv).toNat)
      case atStart => exact HB0.out
      case round =>
        obtain ⟨i, hi, rfl, hbld⟩ := hrel
        have Hb3 := Lib.hid hbld
        clear hbld
        by_cases h4 : i < 4
        · have hd1 : (i : Int) < 4 := by omega
          have hd2 : (0 : Int) ≤ i := by omega
          have hs1 : (0 : Int) ≤ 18 - 6 * (i : Int) := by omega
          have hs2 : 18 - 6 * (i : Int) ≤ 18 := by omega
          have hs3 : (18 - 6 * (i : Int)).toNat = 18 - 6 * i := by omega
          have hTi : (T ++ (quad n N).take i).length ≤ 100000000 := by rw [List.length_append, List.length_take, quad_length]; omega
          have Hstp : Hid (∀ wx, Bld w (T ++ (quad n N).take i ++ [if n < i then 61 else letter (N / 2 ^ (18 - 6 * i) % 64)]) wx → QuadRel w T n N (.int .i64 ((i : Int) + 1)) wx) := Lib.hid (fun wx h => quad_step h4 h)
          generalize T ++ (quad n N).take i = U at *
          by_cases hni : n < i
          · have hd3 : (n : Int) < (i : Int) := by omega
            rw [if_pos hni] at Hstp
            go_wp2_with fail
            refine (Hb3.out.write hTi 61 rfl).mono ?_
            rintro e w4 ⟨rfl, h5⟩
            have Hfin := Lib.hid (Hstp.out _ h5)
            clear h5
            go_wp2_with fail
            exact ⟨Hfin.out, by simp [intOf]; omega⟩
          · have hd3 : ¬ (n : Int) < (i : Int) := by omega
            rw [if_neg hni] at Hstp
            have hand := and63 N (18 - 6 * i) hN
            have hm64 : N / 2 ^ (18 - 6 * i) % 64 < 64 := Nat.mod_lt _ (by omega)
            have hidx := fun hb => letterAt hm64 hb
            generalize N / 2 ^ (18 - 6 * i) % 64 = m at *
            have hd4 : (0 : Int) ≤ m := by omega
            have hd5 : (m : Int) < 64 := by omega
            have hd6 : m < 64 := hm64
            clear hm64
            go_wp2_with fail
            refine (Hb3.out.write hTi (letter m) rfl).mono ?_
            rintro e w4 ⟨rfl, h5⟩
            have Hfin := Lib.hid (Hstp.out _ h5)
            clear h5
            go_wp2_with fail
            exact ⟨Hfin.out, by simp [intOf]; omega⟩
        · rw [List.take_of_length_le (by rw [quad_length]; omega)] at Hb3
          have hdk : decide ((i : Int) < 4) = false := by simp; omega
          have hsl := slice_lo (some ⟨bb, oo, none⟩) r.length cr n hnr
          have Hfin : Hid (B64Rel w b (.slice (cutA (some ⟨bb, oo, none⟩) cr n) (r.length - n) (cr - n)) wr) := Lib.hid ⟨r.drop n, _, _, T ++ quad n N, by simp, by simp; omega, Hbs.out.tail hnr, by rw [List.append_assoc, ← Hstep.out]; exact HT.out, Hb3.out⟩
          go_wp2_with fail
          exact ⟨Hfin.out, by simp [lenOf]; omega⟩
    · obtain rfl : r = [] := List.eq_nil_of_length_eq_zero (by omega)
      have hT := HT.out
      rw [b64, List.append_nil] at hT
      subst hT
      go_wp2_with fail
      refine Hbld.out.string.mono ?_
      rintro e w1 ⟨rfl, h1⟩
      have H1 := Lib.hid h1
      clear h1
      go_wp2_with fail
      go_ret
      exact ⟨rfl, H1.out⟩
end Go.Proofs.YtdmladdpbdcpjaaDoor
