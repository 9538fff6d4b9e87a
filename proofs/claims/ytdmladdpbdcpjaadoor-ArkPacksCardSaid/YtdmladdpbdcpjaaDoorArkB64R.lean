/-
  Base64: the reference's.
-/
import Derived.Test.YtdmladdpbdcpjaaDoorArkB64
import Derived.Deep.RegionLaw
import Derived.Deep.AppendLies
import Derived.RegionTactic
namespace Go.Proofs.YtdmladdpbdcpjaaDoor
open Go.RowKit

attribute [local go_sem] lt1 lt2 lt3 lt4 lt5 lt6

/-- four letters for each three bytes, what is not there a zero -/
def b64z : List UInt8 → List UInt8
  | [] => []
  | [a] => four (num3 a 0 0)
  | [a, b] => four (num3 a b 0)
  | a :: b :: c :: r => four (num3 a b c) ++ b64z r
theorem b64z_step (r : List UInt8) (h : 0 < r.length) : b64z r = four (num3 (r.getD 0 0) (r.getD 1 0) (r.getD 2 0)) ++ b64z (r.drop 3) := by
  match r, h with
  | [a], _ => simp [b64z]
  | [a, b], _ => simp [b64z]
  | a :: b :: c :: r, _ => simp [b64z]
theorem b64z_length : ∀ b : List UInt8, (b64z b).length = (b.length + 2) / 3 * 4
  | [] => rfl
  | [_] => by simp [b64z, four]
  | [_, _] => by simp [b64z, four]
  | _ :: _ :: _ :: r => by
    rw [b64z, List.length_append, b64z_length r]
    simp [four]
    omega
/-- the signs '=' laid over them -/
def signed (r : Nat) (Z : List UInt8) : List UInt8 :=
  let Y := if r = 1 then Z.set (Z.length - 2) 61 else Z
  if r = 0 then Y else Y.set (Y.length - 1) 61
theorem set_right (X Z : List UInt8) (k : Nat) (x : UInt8) (h : k ≤ Z.length) : (X ++ Z).set (X.length + Z.length - k) x = X ++ Z.set (Z.length - k) x := by
  rw [List.set_append_right _ _ (by omega), show X.length + Z.length - k - X.length = Z.length - k by omega]
theorem signed_append (r : Nat) (X Z : List UInt8) (h : r = 0 ∨ 2 ≤ Z.length) : signed r (X ++ Z) = X ++ signed r Z := by
  unfold signed
  by_cases h0 : r = 0
  · subst h0; simp
  · have h2 : 2 ≤ Z.length := by omega
    by_cases h1 : r = 1
    · subst h1
      simp only [if_true, List.length_append, if_neg h0]
      have e := set_right X (Z.set (Z.length - 2) 61) 1 61 (by simp; omega)
      rw [List.length_set] at e
      rw [set_right X Z 2 61 h2, List.length_append, List.length_set, e]
    · simp only [if_neg h1, if_neg h0, List.length_append]
      rw [set_right X Z 1 61 (by omega)]
theorem b64_signed : ∀ b : List UInt8, b64 b = signed (b.length % 3) (b64z b)
  | [] => rfl
  | [a] => by simp [b64, b64z, signed, four]
  | [a, b] => by simp [b64, b64z, signed, four]
  | a :: b :: c :: r => by
    rw [b64, b64z, b64_signed r, signed_append _ _ _ (by
      by_cases h : r.length % 3 = 0
      · left; simp; omega
      · right; rw [b64z_length]; omega)]
    congr 2
    simp; omega
/-- the numbers of the four letters, as the walk spells them -/
theorem four_int (N : Nat) (h : N < 16777216) : ∃ m1 m2 m3 m4 q2 q3 : Nat, four N = [letter m1, letter m2, letter m3, letter m4] ∧ m1 < 64 ∧ m2 < 64 ∧ m3 < 64 ∧ m4 < 64 ∧
    IntKind.i64.wrap ((N : Int) / 262144) = (m1 : Int) ∧ IntKind.i64.wrap ((N : Int) / 4096) = (q2 : Int) ∧ (q2 : Int).tmod 64 = (m2 : Int) ∧ IntKind.i64.wrap ((N : Int) / 64) = (q3 : Int) ∧ (q3 : Int).tmod 64 = (m3 : Int) ∧ (N : Int).tmod 64 = (m4 : Int) := by
  refine ⟨N / 262144, N / 4096 % 64, N / 64 % 64, N % 64, N / 4096, N / 64, rfl, by omega, by omega, by omega, by omega, ?_, ?_, ?_, ?_, ?_, ?_⟩
  · rw [IntKind.wrap_i64]; omega
  · rw [IntKind.wrap_i64]; omega
  · rw [Int.tmod_eq_emod_of_nonneg (by omega)]; omega
  · rw [IntKind.wrap_i64]; omega
  · rw [Int.tmod_eq_emod_of_nonneg (by omega)]; omega
  · rw [Int.tmod_eq_emod_of_nonneg (by omega)]; omega
theorem own_at {w : World} {base k n cap : Nat} {t : TypeId} {A : Option Addr} {xs : List Value} (h : w.ownsRow base t k (.slice A n cap) n xs) (hn : 0 < n) : ∃ g, A = some ⟨g, 0, none⟩ := by
  obtain ⟨A', c', he, h1, h2, _, _⟩ := own_form h
  simp only [Value.slice.injEq] at he
  obtain ⟨rfl, _, _⟩ := he
  cases A with
  | none => have := h1 rfl; omega
  | some a =>
    obtain ⟨g, rfl⟩ := h2 a rfl
    exact ⟨g, rfl⟩
/-- a byte laid into a row of the call's own -/
theorem own_set {w : World} {base g n cap : Nat} {O : List UInt8} (h : w.ownsRow base 5 1 (.slice (some ⟨g, 0, none⟩) n cap) n (u8s O)) (j : Nat) (x : UInt8) :
    (w.setCell ⟨g, j, none⟩ (.int .u8 (x.toNat : Nat))).ownsRow base 5 1 (.slice (some ⟨g, 0, none⟩) n cap) n (u8s (O.set j x)) ∧ Fr [g] w (w.setCell ⟨g, j, none⟩ (.int .u8 (x.toNat : Nat))) := by
  have := (h.stored j (.int .u8 (x.toNat : Nat))).1
  refine ⟨?_, Fr.setCell _ _ _ _ (by simp)⟩
  rw [show u8s (O.set j x) = (u8s O).set j (.int .u8 (x.toNat : Nat)) by simp [u8s, List.map_set]]
  exact this
def B64R (w : World) (b : List UInt8) (ov iv : Value) (wr : World) : Prop :=
  ∃ i O, i ≤ b.length + 2 ∧ i % 3 = 0 ∧ iv = .int .i64 (i : Nat) ∧ O.length ≤ 4 * i ∧ O ++ b64z (b.drop i) = b64z b ∧ wr.ownsRow w.heap.size 5 1 ov O.length (u8s O) ∧ Below w.heap.size w wr

set_option maxHeartbeats 4000000 in
set_option maxRecDepth 100000 in
theorem base64_ref (w : World) (b : List UInt8) (A : Option Addr) (c : Nat) (hb : Bs w A c b) (hl : b.length ≤ 1048576) :
    Calls Tryd.prog 40 #[.slice A b.length c] w fun e w' => e = .returned (.string ⟨(b64 b).toArray⟩) ∧ Below w.heap.size w w' := by
  have Hb := Lib.hid hb
  have hcap := hb.le
  clear hb
  obtain ⟨i0, hi0, hz0, hz1, hz2⟩ := info_parts infoU8
  go_enter Tryd.func40, Tryd.ntmps40
  go_wp2_with fail
  go_loopw [3, 4] (fun ov iv wr => B64R w b ov iv wr) (fun _ iv _ => b.length + 3 - (intOf iv).toNat)
  case atStart => exact ⟨0, [], by omega, rfl, rfl, by simp, by simp, World.ownsRow_nil _ _ _ _, Below.refl _ _⟩
  case round =>
    obtain ⟨i, O, hi, hi3, rfl, hO, hOz, hown, hB⟩ := hrel
    obtain ⟨Av, cv, rfl, _, _, hvc, hvm⟩ := own_form hown
    have Hown := Lib.hid hown
    have HB := Lib.hid hB
    have HO := Lib.hid hOz
    have Hi3 := Lib.hid hi3
    clear hown hB hOz hi3
    by_cases hlt : i < b.length
    · have hstep := b64z_step (b.drop i) (by simp; omega)
      rw [List.drop_drop] at hstep
      simp only [List.getD_eq_getElem?_getD, List.getElem?_drop, Nat.add_zero] at hstep
      simp only [← List.getD_eq_getElem?_getD] at hstep
      have hsz := HB.out.size
      have hi1 : (0 : Int) ≤ i := by omega
      have hi2 : (i : Int) < b.length := by omega
      obtain ⟨bb, oo, rfl, e0⟩ := Hb.out.at_ hlt
      have f0 := Cells.of_below HB.out _ _ e0
      have hg0 := (b.getD i 0).toNat_lt
      have hg1 := (b.getD (i + 1) 0).toNat_lt
      have hg2 := (b.getD (i + 2) 0).toNat_lt
      obtain ⟨N, hN⟩ : ∃ N, N = num3 (b.getD i 0) (b.getD (i + 1) 0) (b.getD (i + 2) 0) := ⟨_, rfl⟩
      have hNl := num3_lt (b.getD i 0) (b.getD (i + 1) 0) (b.getD (i + 2) 0)
      rw [← hN] at hstep hNl
      have hNv : N = (b.getD i 0).toNat * 65536 + (b.getD (i + 1) 0).toNat * 256 + (b.getD (i + 2) 0).toNat := hN
      have Hstep := Lib.hid hstep
      clear e0 hN hstep
      obtain ⟨m1, m2, m3, m4, q2, q3, h4, n1, n2, n3, n4, v1, v2, v3, v4, v5, v6⟩ := four_int N hNl
      rw [h4] at Hstep
      have l1 := fun hb => letterAt n1 hb
      have l2 := fun hb => letterAt n2 hb
      have l3 := fun hb => letterAt n3 hb
      have l4 := fun hb => letterAt n4 hb
      have p1 : (0 : Int) ≤ m1 := by omega
      have p2 : (0 : Int) ≤ m2 := by omega
      have p3 : (0 : Int) ≤ m3 := by omega
      have p4 : (0 : Int) ≤ m4 := by omega
      have r1 : (m1 : Int) < 64 := by omega
      have r2 : (m2 : Int) < 64 := by omega
      have r3 : (m3 : Int) < 64 := by omega
      have r4 : (m4 : Int) < 64 := by omega
      generalize letter m1 = x1 at *
      generalize letter m2 = x2 at *
      generalize letter m3 = x3 at *
      generalize letter m4 = x4 at *
      clear h4
      have HownZ : Hid (∀ o', (wr.drew.alloc o').ownsRow w.heap.size 5 1 (.slice Av O.length cv) O.length (u8s O)) := Lib.hid (fun o' => own_keep Hown.out fun g' c' hg' => (Below.heap_alloc wr o' g' (lt_of_heap hg')).trans hg')
      have Hnw : Hid (∀ j v, [Value.int .u8 (x1.toNat : Nat), .int .u8 (x2.toNat : Nat), .int .u8 (x3.toNat : Nat), .int .u8 (x4.toNat : Nat)][j]? = some v → (wr.drew.alloc (.cells #[.int .u8 (x1.toNat : Nat), .int .u8 (x2.toNat : Nat), .int .u8 (x3.toNat : Nat), .int .u8 (x4.toNat : Nat)] 5)).cell? ((⟨wr.heap.size, 0, none⟩ : Addr).add j) = some v) := Lib.hid (fun j v hv => World.news_of_block (w := wr.drew.alloc _) (heap_alloc_new wr.drew _) j v hv)
      have Hone : Hid (∀ v ∈ [Value.int .u8 (x1.toNat : Nat), .int .u8 (x2.toNat : Nat), .int .u8 (x3.toNat : Nat), .int .u8 (x4.toNat : Nat)], v.oneCell' = true) := Lib.hid (u8s_one [x1, x2, x3, x4])
      have Hfin : Hid (∀ v' z2 o', z2.ownsRow w.heap.size 5 1 v' (O.length + 4) (u8s O ++ [.int .u8 (x1.toNat : Nat), .int .u8 (x2.toNat : Nat), .int .u8 (x3.toNat : Nat), .int .u8 (x4.toNat : Nat)]) → (wr.drew.alloc o').grownBy z2 (Value.slice Av O.length cv).ownBlock → B64R w b v' (.int .i64 ((i : Int) + 3)) z2) := Lib.hid (fun v' z2 o' hown hgrow => ⟨i + 3, O ++ [x1, x2, x3, x4], by omega, by have := Hi3.out; omega, rfl, by simp; omega, by rw [List.append_assoc, ← Hstep.out]; exact HO.out, by simpa [u8s] using hown, ((HB.out.alloc hsz _).drew).grown hgrow (by simp; omega) (fun k' hk' => (own_blk Hown.out k' hk').1)⟩)
      rcases (by omega : b.length = i + 1 ∨ b.length = i + 2 ∨ i + 2 < b.length) with h1 | h1 | h1
      · have e1 : b.getD (i + 1) 0 = 0 := by rw [List.getD_eq_getElem?_getD, List.getElem?_eq_none (by omega)]; rfl
        have e2 : b.getD (i + 2) 0 = 0 := by rw [List.getD_eq_getElem?_getD, List.getElem?_eq_none (by omega)]; rfl
        have d1 : ¬ (i : Int) + 1 < b.length := by omega
        have d2 : ¬ (i : Int) + 2 < b.length := by omega
        have hx : ((b.getD i 0).toNat : Int) * 65536 = (N : Int) := by rw [hNv, e1, e2]; simp
        generalize (b.getD i 0).toNat = g0 at *
        clear e1 e2 hNv hNl hg1 hg2 h1
        go_wp2_with fail
        refine wp_region_any (by kernel_rfl) ?_
        change wpAny _ _ _ _ _ _ _ (World.drew _)
        refine wpAny_take (i := 0) (v := ?_) rfl (by kernel_rfl) (by kernel_rfl) (by kernel_rfl) (fun _ _ _ h => h) (Or.inl ⟨by rfl, ?_⟩) ?_
        rotate_left
        · intro w; go_simp; try with_reducible rfl
        refine wpAny_take (i := 1) (v := ?_) rfl (by kernel_rfl) (by kernel_rfl) (by kernel_rfl) (fun _ _ _ h => h) (Or.inl ⟨by rfl, ?_⟩) ?_
        rotate_left
        · intro w; go_simp; try with_reducible rfl
        refine wpAny_take (i := 2) (v := ?_) rfl (by kernel_rfl) (by kernel_rfl) (by kernel_rfl) (fun _ _ _ h => h) (Or.inl ⟨by rfl, ?_⟩) ?_
        rotate_left
        · intro w; go_simp; try with_reducible rfl
        refine wpAny_take (i := 3) (v := ?_) rfl (by kernel_rfl) (by kernel_rfl) (by kernel_rfl) (fun _ _ _ h => h) (Or.inl ⟨by rfl, ?_⟩) ?_
        rotate_left
        · intro w; go_simp; try with_reducible rfl
        refine wpAny_take (i := 4) (v := ?_) rfl (by kernel_rfl) (by kernel_rfl) (by kernel_rfl) (fun _ _ _ h => h) (Or.inl ⟨by rfl, ?_⟩) ?_
        rotate_left
        · intro w; go_simp; try with_reducible rfl
        refine wpAny_take (i := 5) (v := ?_) rfl (by kernel_rfl) (by kernel_rfl) (by kernel_rfl) (fun _ _ _ h => h) (Or.inl ⟨by rfl, ?_⟩) ?_
        rotate_left
        · intro w; go_simp; try with_reducible rfl
        refine wpAny_take (i := 6) (v := ?_) rfl (by kernel_rfl) (by kernel_rfl) (by kernel_rfl) (fun _ _ _ h => h) (Or.inl ⟨by rfl, ?_⟩) ?_
        rotate_left
        · intro w; go_simp; try with_reducible rfl
        refine wpAny_take (i := 7) (v := ?_) rfl (by kernel_rfl) (by kernel_rfl) (by kernel_rfl) (fun _ _ _ h => h) (Or.inl ⟨by rfl, ?_⟩) ?_
        rotate_left
        · intro w; go_simp; try with_reducible rfl
        refine wpAny_take (i := 8) (v := ?_) rfl (by kernel_rfl) (by kernel_rfl) (by kernel_rfl) (fun _ _ _ h => h) (Or.inl ⟨by rfl, ?_⟩) ?_
        rotate_left
        · intro w; go_simp; try with_reducible rfl
        refine wpAny_take (i := 9) (v := ?_) rfl (by kernel_rfl) (by kernel_rfl) (by kernel_rfl) (fun _ _ _ h => h) (Or.inl ⟨by rfl, ?_⟩) ?_
        rotate_left
        · intro w; go_simp; try with_reducible rfl
        refine wpAny_take (i := 10) (v := ?_) rfl (by kernel_rfl) (by kernel_rfl) (by kernel_rfl) (fun _ _ _ h => h) (Or.inl ⟨by rfl, ?_⟩) ?_
        rotate_left
        · intro w; go_simp; try with_reducible rfl
        refine wpAny_take (i := 11) (v := ?_) rfl (by kernel_rfl) (by kernel_rfl) (by kernel_rfl) (fun _ _ _ h => h) (Or.inl ⟨by rfl, ?_⟩) ?_
        rotate_left
        · intro w; go_simp; try with_reducible rfl
        refine wpAny_take (i := 12) (v := ?_) rfl (by kernel_rfl) (by kernel_rfl) (by kernel_rfl) (fun _ _ _ h => h) (Or.inl ⟨by rfl, ?_⟩) ?_
        rotate_left
        · intro w; go_simp; try with_reducible rfl
        refine wpAny_take (i := 13) (v := ?_) rfl (by kernel_rfl) (by kernel_rfl) (by kernel_rfl) (fun _ _ _ h => h) (Or.inl ⟨by rfl, ?_⟩) ?_
        rotate_left
        · intro w; go_simp; try with_reducible rfl
        refine wpAny_take (i := 14) (v := ?_) rfl (by kernel_rfl) (by kernel_rfl) (by kernel_rfl) (fun _ _ _ h => h) (Or.inl ⟨by rfl, ?_⟩) ?_
        rotate_left
        · intro w; go_simp; try with_reducible rfl
        refine wpAny_ready (rs := [15]) (by kernel_rfl) (by simp) ?_
        refine AllReady.cons rfl (fun K hK => ?_) AllReady.nil
        go_simp
        refine hK _ _ ?_
        clear hK K
        refine wpAny_ready (rs := [16]) (by kernel_rfl) (by simp) ?_
        refine AllReady.cons rfl (fun K hK => ?_) AllReady.nil
        refine step_append_lies _ (by rfl) _ _ 28 (by rfl) w.heap.size 5 i0 (.int .u8 0) 1 1 Tryd.underlying28 hi0 hz0 hz1 hz2 (by rfl) (by omega) (.slice Av O.length cv) O.length (u8s O) (by rfl) (HownZ.out _) ⟨wr.heap.size, 0, none⟩ 4 4 [.int .u8 (x1.toNat : Nat), .int .u8 (x2.toNat : Nat), .int .u8 (x3.toNat : Nat), .int .u8 (x4.toNat : Nat)] (by rfl) (by rfl) Hnw.out Hone.out (by omega) (by simp [maxLen]; omega) (by omega) (by simp; omega) (wr.heap.size + 1) (by simp) ?_; intro g cap z2 hown hgrow hat hlt2; have hown := Lib.hid hown; have hgrow := Lib.hid hgrow
        try go_simp
        refine hK _ _ ?_
        clear hK K
        refine wpAny_take (i := 17) (v := ?_) rfl (by kernel_rfl) (by kernel_rfl) (by kernel_rfl) (fun _ _ _ h => h) (Or.inl ⟨by rfl, ?_⟩) ?_
        rotate_left
        · intro w; go_simp; try with_reducible rfl
        refine wpAny_done (by kernel_rfl) ?_ _
        have Hf := Lib.hid (Hfin.out _ _ _ hown.out hgrow.out)
        clear hown hgrow
        go_wp2_with fail
        exact ⟨Hf.out, by simp [intOf]; omega⟩
      · have e2 : b.getD (i + 2) 0 = 0 := by rw [List.getD_eq_getElem?_getD, List.getElem?_eq_none (by omega)]; rfl
        obtain ⟨_, _, he, e1⟩ := Hb.out.at_ (k := i + 1) (by omega)
        simp only [Option.some.injEq, Addr.mk.injEq] at he
        obtain ⟨rfl, rfl, _⟩ := he
        have f1 := Cells.of_below HB.out _ _ e1
        have d1 : (i : Int) + 1 < b.length := by omega
        have d2 : ¬ (i : Int) + 2 < b.length := by omega
        have hx : ((b.getD i 0).toNat : Int) * 65536 + ((b.getD (i + 1) 0).toNat : Int) * 256 = (N : Int) := by rw [hNv, e2]; simp
        generalize (b.getD i 0).toNat = g0 at *
        generalize (b.getD (i + 1) 0).toNat = g1 at *
        clear e1 e2 hNv hNl hg2 h1
        go_wp2_with fail
        refine wp_region_any (by kernel_rfl) ?_
        change wpAny _ _ _ _ _ _ _ (World.drew _)
        refine wpAny_take (i := 0) (v := ?_) rfl (by kernel_rfl) (by kernel_rfl) (by kernel_rfl) (fun _ _ _ h => h) (Or.inl ⟨by rfl, ?_⟩) ?_
        rotate_left
        · intro w; go_simp; try with_reducible rfl
        refine wpAny_take (i := 1) (v := ?_) rfl (by kernel_rfl) (by kernel_rfl) (by kernel_rfl) (fun _ _ _ h => h) (Or.inl ⟨by rfl, ?_⟩) ?_
        rotate_left
        · intro w; go_simp; try with_reducible rfl
        refine wpAny_take (i := 2) (v := ?_) rfl (by kernel_rfl) (by kernel_rfl) (by kernel_rfl) (fun _ _ _ h => h) (Or.inl ⟨by rfl, ?_⟩) ?_
        rotate_left
        · intro w; go_simp; try with_reducible rfl
        refine wpAny_take (i := 3) (v := ?_) rfl (by kernel_rfl) (by kernel_rfl) (by kernel_rfl) (fun _ _ _ h => h) (Or.inl ⟨by rfl, ?_⟩) ?_
        rotate_left
        · intro w; go_simp; try with_reducible rfl
        refine wpAny_take (i := 4) (v := ?_) rfl (by kernel_rfl) (by kernel_rfl) (by kernel_rfl) (fun _ _ _ h => h) (Or.inl ⟨by rfl, ?_⟩) ?_
        rotate_left
        · intro w; go_simp; try with_reducible rfl
        refine wpAny_take (i := 5) (v := ?_) rfl (by kernel_rfl) (by kernel_rfl) (by kernel_rfl) (fun _ _ _ h => h) (Or.inl ⟨by rfl, ?_⟩) ?_
        rotate_left
        · intro w; go_simp; try with_reducible rfl
        refine wpAny_take (i := 6) (v := ?_) rfl (by kernel_rfl) (by kernel_rfl) (by kernel_rfl) (fun _ _ _ h => h) (Or.inl ⟨by rfl, ?_⟩) ?_
        rotate_left
        · intro w; go_simp; try with_reducible rfl
        refine wpAny_take (i := 7) (v := ?_) rfl (by kernel_rfl) (by kernel_rfl) (by kernel_rfl) (fun _ _ _ h => h) (Or.inl ⟨by rfl, ?_⟩) ?_
        rotate_left
        · intro w; go_simp; try with_reducible rfl
        refine wpAny_take (i := 8) (v := ?_) rfl (by kernel_rfl) (by kernel_rfl) (by kernel_rfl) (fun _ _ _ h => h) (Or.inl ⟨by rfl, ?_⟩) ?_
        rotate_left
        · intro w; go_simp; try with_reducible rfl
        refine wpAny_take (i := 9) (v := ?_) rfl (by kernel_rfl) (by kernel_rfl) (by kernel_rfl) (fun _ _ _ h => h) (Or.inl ⟨by rfl, ?_⟩) ?_
        rotate_left
        · intro w; go_simp; try with_reducible rfl
        refine wpAny_take (i := 10) (v := ?_) rfl (by kernel_rfl) (by kernel_rfl) (by kernel_rfl) (fun _ _ _ h => h) (Or.inl ⟨by rfl, ?_⟩) ?_
        rotate_left
        · intro w; go_simp; try with_reducible rfl
        refine wpAny_take (i := 11) (v := ?_) rfl (by kernel_rfl) (by kernel_rfl) (by kernel_rfl) (fun _ _ _ h => h) (Or.inl ⟨by rfl, ?_⟩) ?_
        rotate_left
        · intro w; go_simp; try with_reducible rfl
        refine wpAny_take (i := 12) (v := ?_) rfl (by kernel_rfl) (by kernel_rfl) (by kernel_rfl) (fun _ _ _ h => h) (Or.inl ⟨by rfl, ?_⟩) ?_
        rotate_left
        · intro w; go_simp; try with_reducible rfl
        refine wpAny_take (i := 13) (v := ?_) rfl (by kernel_rfl) (by kernel_rfl) (by kernel_rfl) (fun _ _ _ h => h) (Or.inl ⟨by rfl, ?_⟩) ?_
        rotate_left
        · intro w; go_simp; try with_reducible rfl
        refine wpAny_take (i := 14) (v := ?_) rfl (by kernel_rfl) (by kernel_rfl) (by kernel_rfl) (fun _ _ _ h => h) (Or.inl ⟨by rfl, ?_⟩) ?_
        rotate_left
        · intro w; go_simp; try with_reducible rfl
        refine wpAny_ready (rs := [15]) (by kernel_rfl) (by simp) ?_
        refine AllReady.cons rfl (fun K hK => ?_) AllReady.nil
        go_simp
        refine hK _ _ ?_
        clear hK K
        refine wpAny_ready (rs := [16]) (by kernel_rfl) (by simp) ?_
        refine AllReady.cons rfl (fun K hK => ?_) AllReady.nil
        refine step_append_lies _ (by rfl) _ _ 28 (by rfl) w.heap.size 5 i0 (.int .u8 0) 1 1 Tryd.underlying28 hi0 hz0 hz1 hz2 (by rfl) (by omega) (.slice Av O.length cv) O.length (u8s O) (by rfl) (HownZ.out _) ⟨wr.heap.size, 0, none⟩ 4 4 [.int .u8 (x1.toNat : Nat), .int .u8 (x2.toNat : Nat), .int .u8 (x3.toNat : Nat), .int .u8 (x4.toNat : Nat)] (by rfl) (by rfl) Hnw.out Hone.out (by omega) (by simp [maxLen]; omega) (by omega) (by simp; omega) (wr.heap.size + 1) (by simp) ?_; intro g cap z2 hown hgrow hat hlt2; have hown := Lib.hid hown; have hgrow := Lib.hid hgrow
        try go_simp
        refine hK _ _ ?_
        clear hK K
        refine wpAny_take (i := 17) (v := ?_) rfl (by kernel_rfl) (by kernel_rfl) (by kernel_rfl) (fun _ _ _ h => h) (Or.inl ⟨by rfl, ?_⟩) ?_
        rotate_left
        · intro w; go_simp; try with_reducible rfl
        refine wpAny_done (by kernel_rfl) ?_ _
        have Hf := Lib.hid (Hfin.out _ _ _ hown.out hgrow.out)
        clear hown hgrow
        go_wp2_with fail
        exact ⟨Hf.out, by simp [intOf]; omega⟩
      · obtain ⟨_, _, he, e1⟩ := Hb.out.at_ (k := i + 1) (by omega)
        simp only [Option.some.injEq, Addr.mk.injEq] at he
        obtain ⟨rfl, rfl, _⟩ := he
        obtain ⟨_, _, he, e2⟩ := Hb.out.at_ (k := i + 2) (by omega)
        simp only [Option.some.injEq, Addr.mk.injEq] at he
        obtain ⟨rfl, rfl, _⟩ := he
        have f1 := Cells.of_below HB.out _ _ e1
        have f2 := Cells.of_below HB.out _ _ e2
        have d1 : (i : Int) + 1 < b.length := by omega
        have d2 : (i : Int) + 2 < b.length := by omega
        have hx : ((b.getD i 0).toNat : Int) * 65536 + ((b.getD (i + 1) 0).toNat : Int) * 256 + ((b.getD (i + 2) 0).toNat : Int) = (N : Int) := by rw [hNv]; simp
        generalize (b.getD i 0).toNat = g0 at *
        generalize (b.getD (i + 1) 0).toNat = g1 at *
        generalize (b.getD (i + 2) 0).toNat = g2 at *
        clear e1 e2 hNv hNl h1
        go_wp2_with fail
        refine wp_region_any (by kernel_rfl) ?_
        change wpAny _ _ _ _ _ _ _ (World.drew _)
        refine wpAny_take (i := 0) (v := ?_) rfl (by kernel_rfl) (by kernel_rfl) (by kernel_rfl) (fun _ _ _ h => h) (Or.inl ⟨by rfl, ?_⟩) ?_
        rotate_left
        · intro w; go_simp; try with_reducible rfl
        refine wpAny_take (i := 1) (v := ?_) rfl (by kernel_rfl) (by kernel_rfl) (by kernel_rfl) (fun _ _ _ h => h) (Or.inl ⟨by rfl, ?_⟩) ?_
        rotate_left
        · intro w; go_simp; try with_reducible rfl
        refine wpAny_take (i := 2) (v := ?_) rfl (by kernel_rfl) (by kernel_rfl) (by kernel_rfl) (fun _ _ _ h => h) (Or.inl ⟨by rfl, ?_⟩) ?_
        rotate_left
        · intro w; go_simp; try with_reducible rfl
        refine wpAny_take (i := 3) (v := ?_) rfl (by kernel_rfl) (by kernel_rfl) (by kernel_rfl) (fun _ _ _ h => h) (Or.inl ⟨by rfl, ?_⟩) ?_
        rotate_left
        · intro w; go_simp; try with_reducible rfl
        refine wpAny_take (i := 4) (v := ?_) rfl (by kernel_rfl) (by kernel_rfl) (by kernel_rfl) (fun _ _ _ h => h) (Or.inl ⟨by rfl, ?_⟩) ?_
        rotate_left
        · intro w; go_simp; try with_reducible rfl
        refine wpAny_take (i := 5) (v := ?_) rfl (by kernel_rfl) (by kernel_rfl) (by kernel_rfl) (fun _ _ _ h => h) (Or.inl ⟨by rfl, ?_⟩) ?_
        rotate_left
        · intro w; go_simp; try with_reducible rfl
        refine wpAny_take (i := 6) (v := ?_) rfl (by kernel_rfl) (by kernel_rfl) (by kernel_rfl) (fun _ _ _ h => h) (Or.inl ⟨by rfl, ?_⟩) ?_
        rotate_left
        · intro w; go_simp; try with_reducible rfl
        refine wpAny_take (i := 7) (v := ?_) rfl (by kernel_rfl) (by kernel_rfl) (by kernel_rfl) (fun _ _ _ h => h) (Or.inl ⟨by rfl, ?_⟩) ?_
        rotate_left
        · intro w; go_simp; try with_reducible rfl
        refine wpAny_take (i := 8) (v := ?_) rfl (by kernel_rfl) (by kernel_rfl) (by kernel_rfl) (fun _ _ _ h => h) (Or.inl ⟨by rfl, ?_⟩) ?_
        rotate_left
        · intro w; go_simp; try with_reducible rfl
        refine wpAny_take (i := 9) (v := ?_) rfl (by kernel_rfl) (by kernel_rfl) (by kernel_rfl) (fun _ _ _ h => h) (Or.inl ⟨by rfl, ?_⟩) ?_
        rotate_left
        · intro w; go_simp; try with_reducible rfl
        refine wpAny_take (i := 10) (v := ?_) rfl (by kernel_rfl) (by kernel_rfl) (by kernel_rfl) (fun _ _ _ h => h) (Or.inl ⟨by rfl, ?_⟩) ?_
        rotate_left
        · intro w; go_simp; try with_reducible rfl
        refine wpAny_take (i := 11) (v := ?_) rfl (by kernel_rfl) (by kernel_rfl) (by kernel_rfl) (fun _ _ _ h => h) (Or.inl ⟨by rfl, ?_⟩) ?_
        rotate_left
        · intro w; go_simp; try with_reducible rfl
        refine wpAny_take (i := 12) (v := ?_) rfl (by kernel_rfl) (by kernel_rfl) (by kernel_rfl) (fun _ _ _ h => h) (Or.inl ⟨by rfl, ?_⟩) ?_
        rotate_left
        · intro w; go_simp; try with_reducible rfl
        refine wpAny_take (i := 13) (v := ?_) rfl (by kernel_rfl) (by kernel_rfl) (by kernel_rfl) (fun _ _ _ h => h) (Or.inl ⟨by rfl, ?_⟩) ?_
        rotate_left
        · intro w; go_simp; try with_reducible rfl
        refine wpAny_take (i := 14) (v := ?_) rfl (by kernel_rfl) (by kernel_rfl) (by kernel_rfl) (fun _ _ _ h => h) (Or.inl ⟨by rfl, ?_⟩) ?_
        rotate_left
        · intro w; go_simp; try with_reducible rfl
        refine wpAny_ready (rs := [15]) (by kernel_rfl) (by simp) ?_
        refine AllReady.cons rfl (fun K hK => ?_) AllReady.nil
        go_simp
        refine hK _ _ ?_
        clear hK K
        refine wpAny_ready (rs := [16]) (by kernel_rfl) (by simp) ?_
        refine AllReady.cons rfl (fun K hK => ?_) AllReady.nil
        refine step_append_lies _ (by rfl) _ _ 28 (by rfl) w.heap.size 5 i0 (.int .u8 0) 1 1 Tryd.underlying28 hi0 hz0 hz1 hz2 (by rfl) (by omega) (.slice Av O.length cv) O.length (u8s O) (by rfl) (HownZ.out _) ⟨wr.heap.size, 0, none⟩ 4 4 [.int .u8 (x1.toNat : Nat), .int .u8 (x2.toNat : Nat), .int .u8 (x3.toNat : Nat), .int .u8 (x4.toNat : Nat)] (by rfl) (by rfl) Hnw.out Hone.out (by omega) (by simp [maxLen]; omega) (by omega) (by simp; omega) (wr.heap.size + 1) (by simp) ?_; intro g cap z2 hown hgrow hat hlt2; have hown := Lib.hid hown; have hgrow := Lib.hid hgrow
        try go_simp
        refine hK _ _ ?_
        clear hK K
        refine wpAny_take (i := 17) (v := ?_) rfl (by kernel_rfl) (by kernel_rfl) (by kernel_rfl) (fun _ _ _ h => h) (Or.inl ⟨by rfl, ?_⟩) ?_
        rotate_left
        · intro w; go_simp; try with_reducible rfl
        refine wpAny_done (by kernel_rfl) ?_ _
        have Hf := Lib.hid (Hfin.out _ _ _ hown.out hgrow.out)
        clear hown hgrow
        go_wp2_with fail
        exact ⟨Hf.out, by simp [intOf]; omega⟩
    · have hZ : O = b64z b := by
        have := HO.out
        rw [List.drop_eq_nil_of_le (by omega), b64z, List.append_nil] at this
        exact this
      have hZl : O.length = (b.length + 2) / 3 * 4 := by rw [hZ, b64z_length]
      have Hfin := Lib.hid (b64_signed b)
      rw [← hZ] at Hfin
      have hmod : (b.length : Int).tmod 3 = (b.length : Int) % 3 := Int.tmod_eq_emod_of_nonneg (by omega)
      clear hZ HO
      rcases (by omega : b.length % 3 = 0 ∨ b.length % 3 = 1 ∨ b.length % 3 = 2) with h3 | h3 | h3
      · have d1 : ((b.length : Int) % 3 == 1) = false := by simp; omega
        have d2 : ((b.length : Int) % 3 != 0) = false := by simp; omega
        rw [h3] at Hfin
        have hcv := str_of_bs (row_sl' Hown.out)
        have HB' := HB.out
        clear Hown h3 hZl hmod HB
        go_wp2_with fail
        go_ret
        exact ⟨by rw [Hfin.out]; rfl, HB'⟩
      · have d1 : ((b.length : Int) % 3 == 1) = true := by simp; omega
        have d2 : ((b.length : Int) % 3 != 0) = true := by simp; omega
        rw [h3] at Hfin
        obtain ⟨g, rfl⟩ : ∃ g, Av = some ⟨g, 0, none⟩ := own_at Hown.out (by omega)
        have hOl : ∃ n, n = O.length := ⟨_, rfl⟩
        obtain ⟨n, hn⟩ := hOl
        have hown := Hown.out
        have hn2 : 2 ≤ n := by omega
        have hnb : n ≤ 4194304 := by omega
        rw [← hn] at hown ⊢
        have k2 : ((n : Int) - 2).toNat = n - 2 := by omega
        have k1 : ((n : Int) - 1).toNat = n - 1 := by omega
        have j1 : (0 : Int) ≤ (n : Int) - 2 := by omega
        have j2 : (0 : Int) ≤ (n : Int) - 1 := by omega
        have s1 := own_set hown (n - 2) 61
        have s2 := own_set s1.1 (n - 1) 61
        have e2 : b64 b = (O.set (n - 2) 61).set (n - 1) 61 := by rw [Hfin.out]; simp [signed, hn]
        rw [← e2] at s2
        have hl2 : (b64 b).length = n := by rw [e2]; simp [hn]
        have hs2 := s2.1
        rw [← hl2] at hs2
        have hcv := str_of_bs (row_sl' hs2)
        rw [hl2] at hcv
        have c2 := hown.cellAt (n - 2) (by omega)
        have c1 := hown.cellAt (n - 1) (by omega)
        rw [u8s_at (by omega)] at c1 c2
        have z2 := hown.frozenAt (n - 2)
        have z1 := hown.frozenAt (n - 1)
        have Hcv : Hid ((convert 28 9 (.slice (some ⟨g, 0, none⟩) n cv)).run Tryd.prog ((wr.setCell ⟨g, n - 2, none⟩ (.int .u8 61)).setCell ⟨g, n - 1, none⟩ (.int .u8 61)) = .ok (.string ⟨(b64 b).toArray⟩) ((wr.setCell ⟨g, n - 2, none⟩ (.int .u8 61)).setCell ⟨g, n - 1, none⟩ (.int .u8 61))) := Lib.hid hcv
        have Hfr : Hid (Below w.heap.size w ((wr.setCell ⟨g, n - 2, none⟩ (.int .u8 61)).setCell ⟨g, n - 1, none⟩ (.int .u8 61))) := Lib.hid (HB.out.trans ((s1.2.trans s2.2).below HB.out.size (by simp; exact (own_blk Hown.out g rfl).1)))
        have hcv' := Hcv.out
        have hne : (⟨g, n - 2, none⟩ : Addr) ≠ ⟨g, n - 1, none⟩ := fun h => by have h2 := congrArg Addr.off h; simp at h2; omega
        clear s1 s2 hs2 hcv e2 hl2 hown hn h3 hZl hmod Hown HB
        go_wp2_with fail
        go_ret
        exact ⟨rfl, Hfr.out⟩
      · have d1 : ((b.length : Int) % 3 == 1) = false := by simp; omega
        have d2 : ((b.length : Int) % 3 != 0) = true := by simp; omega
        rw [h3] at Hfin
        obtain ⟨g, rfl⟩ : ∃ g, Av = some ⟨g, 0, none⟩ := own_at Hown.out (by omega)
        have hOl : ∃ n, n = O.length := ⟨_, rfl⟩
        obtain ⟨n, hn⟩ := hOl
        have hown := Hown.out
        have hn2 : 2 ≤ n := by omega
        have hnb : n ≤ 4194304 := by omega
        rw [← hn] at hown ⊢
        have k1 : ((n : Int) - 1).toNat = n - 1 := by omega
        have j2 : (0 : Int) ≤ (n : Int) - 1 := by omega
        have s2 := own_set hown (n - 1) 61
        have e2 : b64 b = O.set (n - 1) 61 := by rw [Hfin.out]; simp [signed, hn]
        rw [← e2] at s2
        have hl2 : (b64 b).length = n := by rw [e2]; simp [hn]
        have hs2 := s2.1
        rw [← hl2] at hs2
        have hcv := str_of_bs (row_sl' hs2)
        rw [hl2] at hcv
        have c1 := hown.cellAt (n - 1) (by omega)
        rw [u8s_at (by omega)] at c1
        have z1 := hown.frozenAt (n - 1)
        have Hcv : Hid ((convert 28 9 (.slice (some ⟨g, 0, none⟩) n cv)).run Tryd.prog (wr.setCell ⟨g, n - 1, none⟩ (.int .u8 61)) = .ok (.string ⟨(b64 b).toArray⟩) (wr.setCell ⟨g, n - 1, none⟩ (.int .u8 61))) := Lib.hid hcv
        have Hfr : Hid (Below w.heap.size w (wr.setCell ⟨g, n - 1, none⟩ (.int .u8 61))) := Lib.hid (HB.out.trans (s2.2.below HB.out.size (by simp; exact (own_blk Hown.out g rfl).1)))
        have hcv' := Hcv.out
        clear s2 hs2 hcv e2 hl2 hown hn h3 hZl hmod Hown HB
        go_wp2_with fail
        go_ret
        exact ⟨rfl, Hfr.out⟩
end Go.Proofs.YtdmladdpbdcpjaaDoor
