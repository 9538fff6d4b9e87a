/-
  ArkSums: the walk. (Printed by wip/abexp.py.)
-/
import Derived.Test.YtfbdjfljgcfikaaDoorArkFirst
import Derived.Test.YtfbdjfljgcfikaaDoorArkM
import Derived.Test.YtfbdjfljgcfikaaDoorArkFromR
namespace Go.Proofs.YtfbdjfljgcfikaaDoor
open Go.RowKit

set_option linter.unusedSimpArgs false

attribute [local go_sem] lt1 lt2 lt3 lt4 lt5 lt6

/-- what a base64 text stands for: the bytes and the error -/
def FromOk (S b : List UInt8) (k : Nat) : Prop := (b64 b = S ∧ k = 0) ∨ ((∀ x, b64 x ≠ S) ∧ b = [] ∧ k = 15)
theorem FromOk.one {S b b' : List UInt8} {k k' : Nat} (h : FromOk S b k) (h' : FromOk S b' k') : b' = b ∧ k' = k := by
  rcases h with ⟨h1, rfl⟩ | ⟨h1, rfl, rfl⟩ <;> rcases h' with ⟨h2, rfl⟩ | ⟨h2, rfl, rfl⟩
  · exact ⟨by rw [← dec_ref b', h2, ← h1, dec_ref], rfl⟩
  · exact absurd h1 (h2 _)
  · exact absurd h2 (h1 _)
  · exact ⟨rfl, rfl⟩
def FromPost' (S : List UInt8) (w : World) (e : Ending) (w' : World) : Prop := ∃ b k A c, FromOk S b k ∧ e = .returned (.tuple #[.slice A b.length c, .int .i64 (k : Nat)]) ∧ Bs w' A c b ∧ Below w.heap.size w w'
theorem from_post {S : List UInt8} {w w' : World} {e : Ending} (h : FromPost S w e w') : FromPost' S w e w' := by
  obtain ⟨hb, ⟨b, v, h1, rfl, h2⟩ | ⟨h1, rfl⟩⟩ := h
  · obtain ⟨A, c, rfl, h3⟩ := own_bs h2
    exact ⟨b, 0, A, c, .inl ⟨h1, rfl⟩, rfl, h3, hb⟩
  · exact ⟨[], 15, none, 0, .inr ⟨h1, rfl, rfl⟩, rfl, Bs.none_ _, hb⟩
theorem same_at (x : List UInt8) (A1 A2 : Option Addr) (n c1 c2 : Nat) (w : World) (hn : x.length = n) (h1 : Bs w A1 c1 x) (h2 : Bs w A2 c2 x) :
    Calls Tryd.prog 19 #[.slice A1 n c1, .slice A2 n c2] w fun e w' => e = .returned (.bool true) ∧ Below w.heap.size w w' := by
  have h := same_any x x A1 A2 c1 c2 w h1 h2
  rw [hn, beq_self_eq_true] at h
  exact h.mono fun e w' ⟨h1, k, h2⟩ => ⟨h1, by rw [h2]; exact ⟨rfl, rfl, rfl, Nat.le_refl _, fun _ _ => rfl⟩⟩
theorem LentAt.below {w w' : World} {B g cap : Nat} {x : List UInt8} (h : LentAt w B g cap x) (hb : Below w.heap.size w w') : LentAt w' B g cap x := own_keep h fun g _ hg => (hb.block g (lt_of_heap hg)).trans hg
theorem Bs.below {w w' : World} {A : Option Addr} {c : Nat} {x : List UInt8} (h : Bs w A c x) (hb : Below w.heap.size w w') : Bs w' A c x := h.keep (Cells.of_below hb)
def ZRel (W : World) (gs cs : Nat) (iv : Value) (wr : World) : Prop := ∃ i xs, i ≤ 32 ∧ iv = .int .i64 (i : Nat) ∧ wr.ownsRow W.heap.size 5 1 (.slice (some ⟨gs, 0, none⟩) 32 cs) 32 xs ∧ Below W.heap.size W wr
theorem own_some {w : World} {base k n : Nat} {t : TypeId} {v : Value} {xs : List Value} (h : w.ownsRow base t k v n xs) (hn : 0 < n) : ∃ g cap, v = .slice (some ⟨g, 0, none⟩) n cap := by
  obtain ⟨A, c, rfl, h1, h2, _, _⟩ := own_form h
  cases A with
  | none => have := (h1 rfl).1; omega
  | some a =>
    obtain ⟨g, rfl⟩ := h2 a rfl
    exact ⟨g, c, rfl⟩
def SumsPost (w : World) (e : Ending) (w' : World) : Prop := e = .returned (.bool true) ∧ Below w.heap.size w w'
set_option maxHeartbeats 4000000 in
set_option maxRecDepth 100000 in
theorem sums_any (w : World) (hm : MaxL w) (A : Option Addr) (c : Nat) (d : List UInt8) (hb : Bs w A c d) (s : ByteArray) :
    Calls Tryd.prog 8 #[.slice A d.length c, .string s] w (SumsPost w) := by
  have hdl := hb.len_le
  have HD := Lib.hid hb
  have HM := Lib.hid hm
  have hfi := first_any w hm
  clear hb hm
  by_cases h1 : 4000 < d.length
  · have hI : (4000 : Int) < d.length := by omega
    go_enter Tryd.func8, Tryd.ntmps8
    go_wp2_with fail
    refine hfi.mono ?_
    rintro e w1 ⟨rfl, hb⟩
    have Hb := Lib.hid hb
    clear hb
    go_wp2_with fail
    go_ret
    exact ⟨rfl, Hb.out⟩
  by_cases h2 : 4000 < s.size
  · have hI : ¬ (4000 : Int) < d.length := by omega
    have hI2 : (4000 : Int) < s.size := by omega
    go_enter Tryd.func8, Tryd.ntmps8
    go_wp2_with fail
    refine hfi.mono ?_
    rintro e w1 ⟨rfl, hb⟩
    have Hb := Lib.hid hb
    clear hb
    go_wp2_with fail
    go_ret
    exact ⟨rfl, Hb.out⟩
  have hI : ¬ (4000 : Int) < d.length := by omega
  have hI2 : ¬ (4000 : Int) < s.size := by omega
  have hL := fun w1 (h : Bs w1 A c d) => lent_any d A c w1 (by omega) h
  obtain ⟨n, hn⟩ : ∃ n, n = d.length := ⟨_, rfl⟩
  go_enter Tryd.func8, Tryd.ntmps8
  go_wp2_with fail
  refine hfi.mono ?_
  rintro e w1 ⟨rfl, hb⟩
  have Hb1 := Lib.hid hb
  clear hb hfi
  go_wp2_with fail
  refine (hL w1 (HD.out.below Hb1.out)).mono ?_
  rintro e w2 ⟨gm, cm, rfl, hl, hb⟩
  have HL := Lib.hid hl
  have Hb2 := Lib.hid (Hb1.out.trans (hb.mono Hb1.out.size))
  have HD2 := Lib.hid (HD.out.below Hb2.out)
  clear hl hb hL Hb1 HM HD
  go_wp2_with fail
  refine (sha_any w2 d _ _ HL.out.bs (by omega)).mono ?_
  rintro e w3 ⟨v, rfl, hown, hb⟩
  rw [sha_len] at hown
  obtain ⟨gs, cs, rfl⟩ := own_some hown (by decide)
  have HS := Lib.hid hown
  have Hb3 := Lib.hid hb
  clear hown hb
  go_wp2_with fail
  refine (sha_ref w3 d A c (HD2.out.below Hb3.out) (by omega)).mono ?_
  rintro e w4 ⟨v, rfl, hown, hb⟩
  obtain ⟨A4, c4, rfl, h4⟩ := own_bs hown
  have H4 := Lib.hid h4
  have HS4 := Lib.hid (own_keep HS.out fun g _ hg => (hb.block g (lt_of_heap hg)).trans hg)
  have Hb4 := Lib.hid (Hb3.out.trans (hb.mono Hb3.out.size))
  clear hown hb h4 HS Hb3
  rw [sha_len]
  go_wp2_with fail
  refine (same_at (sha d) _ _ 32 _ _ w4 (sha_len d) ?_ H4.out).mono ?_
  · have := HS4.out
    rw [← sha_len d] at this
    obtain ⟨A5, c5, h5, h6⟩ := own_bs this
    rw [sha_len] at h5
    simp only [Value.slice.injEq] at h5
    obtain ⟨rfl, _, rfl⟩ := h5
    exact h6
  rintro e w5 ⟨rfl, hb⟩
  have HS5 := Lib.hid (own_keep HS4.out fun g _ hg => (hb.block g (lt_of_heap hg)).trans hg)
  have Hb5 := Lib.hid (Hb4.out.trans (hb.mono Hb4.out.size))
  clear hb HS4 Hb4 H4
  go_wp2_with fail
  have hc1 := crc_any w5 d _ _ (HL.out.below Hb5.out).bs
  have hc2 := crc_ref w5 d A c (HD2.out.below Hb5.out)
  generalize crcOf d = kc at hc1 hc2
  refine hc1.mono ?_
  rintro e w6 ⟨rfl, rfl⟩
  go_wp2_with fail
  refine hc2.mono ?_
  rintro e w6 ⟨rfl, rfl⟩
  clear hc1 hc2
  go_wp2_with fail
  have HS6 := HS5
  have Hb6 := Hb5
  clear HS5 Hb5
  obtain ⟨X1, hX1⟩ : ∃ X, X = (⟨(hexOf d).toArray⟩ : ByteArray) := ⟨_, rfl⟩
  obtain ⟨X2, hX2⟩ : ∃ X, X = (⟨(b64 d).toArray⟩ : ByteArray) := ⟨_, rfl⟩
  obtain ⟨X3, hX3⟩ : ∃ X, X = (⟨(sumOf [(goMod, d)]).toArray⟩ : ByteArray) := ⟨_, rfl⟩
  have HX1 := Lib.hid hX1
  have HX2 := Lib.hid hX2
  have HX3 := Lib.hid hX3
  clear hX1 hX2 hX3
  have hx := hex_any w6 d _ _ (HL.out.below Hb6.out).bs (by omega)
  rw [← HX1.out] at hx
  refine hx.mono ?_
  rintro e w7 ⟨rfl, hb⟩
  have HS7 := Lib.hid (own_keep HS6.out fun g _ hg => (hb.block g (lt_of_heap hg)).trans hg)
  have Hb7 := Lib.hid (Hb6.out.trans (hb.mono Hb6.out.size))
  clear hx hb HS6 Hb6
  go_wp2_with fail
  have hx := hex_ref w7 d A c (HD2.out.below Hb7.out) (by omega)
  rw [← HX1.out] at hx
  refine hx.mono ?_
  rintro e w8 ⟨rfl, hb⟩
  have HS8 := Lib.hid (own_keep HS7.out fun g _ hg => (hb.block g (lt_of_heap hg)).trans hg)
  have Hb8 := Lib.hid (Hb7.out.trans (hb.mono Hb7.out.size))
  clear hx hb HS7 Hb7
  go_wp2_with fail
  have hx := base64_any w8 d _ _ (HL.out.below Hb8.out).bs (by omega)
  rw [← HX2.out] at hx
  refine hx.mono ?_
  rintro e w9 ⟨rfl, hb⟩
  have HS9 := Lib.hid (own_keep HS8.out fun g _ hg => (hb.block g (lt_of_heap hg)).trans hg)
  have Hb9 := Lib.hid (Hb8.out.trans (hb.mono Hb8.out.size))
  clear hx hb HS8 Hb8
  go_wp2_with fail
  have hx := base64_ref w9 d A c (HD2.out.below Hb9.out) (by omega)
  rw [← HX2.out] at hx
  refine hx.mono ?_
  rintro e w10 ⟨rfl, hb⟩
  have HS10 := Lib.hid (own_keep HS9.out fun g _ hg => (hb.block g (lt_of_heap hg)).trans hg)
  have Hb10 := Lib.hid (Hb9.out.trans (hb.mono Hb9.out.size))
  clear hx hb HS9 Hb9
  go_wp2_with fail
  have hx := manifest_any w10 _ _ d (HL.out.below Hb10.out).bs (by omega)
  unfold SumPost at hx
  rw [← HX3.out] at hx
  refine hx.mono ?_
  rintro e w11 ⟨rfl, hb⟩
  have HS11 := Lib.hid (own_keep HS10.out fun g _ hg => (hb.block g (lt_of_heap hg)).trans hg)
  have Hb11 := Lib.hid (Hb10.out.trans (hb.mono Hb10.out.size))
  clear hx hb HS10 Hb10
  go_wp2_with fail
  have hx := manifest_ref w11 A c d (HD2.out.below Hb11.out) (by omega)
  unfold SumPost at hx
  rw [← HX3.out] at hx
  refine hx.mono ?_
  rintro e w12 ⟨rfl, hb⟩
  have HS12 := Lib.hid (own_keep HS11.out fun g _ hg => (hb.block g (lt_of_heap hg)).trans hg)
  have Hb12 := Lib.hid (Hb11.out.trans (hb.mono Hb11.out.size))
  clear hx hb HS11 Hb11
  go_wp2_with fail
  clear HX1 HX2 HX3
  have HZ : Hid (ZRel w2 gs cs (.int .i64 0) w12) := Lib.hid ⟨0, _, by omega, rfl, HS12.out, Hb12.out⟩
  clear HS12 Hb12
  go_loopw [9] (fun iv wr => ZRel w2 gs cs iv wr) (fun iv _ => 32 - (intOf iv).toNat)
  case atStart => exact HZ.out
  clear HZ
  obtain ⟨i, xs, hi, rfl, hown, hb⟩ := hrel
  have hi0 : (0 : Int) ≤ i := by omega
  by_cases hlt : i < 32
  · have hlI : (i : Int) < 32 := by omega
    obtain ⟨u, hu⟩ : ∃ u, xs[i]? = some u := ⟨_, List.getElem?_eq_getElem (by rw [hown.1]; omega)⟩
    have c1 := own_cell hown hu
    obtain ⟨hgB, cur, hg⟩ := own_blk hown gs rfl
    have c2 : wr.frozen? ⟨gs, i, none⟩ = false := (blk_cells hg).2.1 i
    have HN : Hid (ZRel w2 gs cs (.int .i64 (i + 1)) (wr.setCell ⟨gs, i, none⟩ (.int .u8 0))) := Lib.hid ⟨i + 1, _, by omega, by simp, (hown.stored i (.int .u8 0)).1, hb.trans ((Fr.setCell [gs] wr ⟨gs, i, none⟩ (.int .u8 0) (by simp)).below hb.size (by simpa using hgB))⟩
    clear hown hb hg hu
    go_wp2_with fail
    exact ⟨HN.out, by simp only [intOf]; omega⟩
  have hlI : ¬ (i : Int) < 32 := by omega
  have Hb13 := Lib.hid hb
  clear hown hb
  go_wp2_with fail
  refine (kept_any d _ gm cm A c wr (by omega) (HL.out.below Hb13.out) (HD2.out.below Hb13.out)).mono ?_
  rintro e w14 ⟨rfl, nd, hw⟩
  have Hb14 : Hid (Below w2.heap.size w2 w14) := Lib.hid (by rw [hw]; exact Hb13.out.trans ⟨rfl, rfl, rfl, Nat.le_refl _, fun _ _ => rfl⟩)
  clear hw Hb13
  go_wp2_with fail
  refine (from_any w14 s (by omega)).mono ?_
  rintro e w15 hp
  obtain ⟨b1, k1, A1, c1, hok, rfl, hb1, hb⟩ := from_post hp
  have Hok := Lib.hid hok
  have HB1 := Lib.hid hb1
  have Hb15 := Lib.hid (Hb14.out.trans (hb.mono Hb14.out.size))
  clear hp hb hb1 hok Hb14
  go_wp2_with fail
  refine (from_ref w15 s (by omega)).mono ?_
  rintro e w16 hp
  obtain ⟨b2, k2, A2, c2, hok, rfl, hb2, hb⟩ := from_post hp
  obtain ⟨rfl, rfl⟩ := Hok.out.one hok
  have HB2 := Lib.hid hb2
  have HB3 := Lib.hid (HB1.out.below hb)
  have Hb16 := Lib.hid (Hb15.out.trans (hb.mono Hb15.out.size))
  clear hp hb hb2 hok Hb15 HB1 Hok
  go_wp2_with fail
  refine (same_at b2 A1 A2 b2.length c1 c2 w16 rfl HB3.out HB2.out).mono ?_
  rintro e w17 ⟨rfl, hb⟩
  have Hb17 := Lib.hid (Hb16.out.trans (hb.mono Hb16.out.size))
  clear hb Hb16 HB2 HB3
  go_wp2_with fail
  refine (sha_any w17 d A c (HD2.out.below Hb17.out) (by omega)).mono ?_
  rintro e w18 ⟨v, rfl, hown, hb⟩
  obtain ⟨A5, c5, rfl, h5⟩ := own_bs hown
  have H5 := Lib.hid h5
  have Hb18 := Lib.hid (Hb17.out.trans (hb.mono Hb17.out.size))
  clear hown hb h5 Hb17
  rw [sha_len]
  go_wp2_with fail
  refine (sha_ref w18 d A c (HD2.out.below Hb18.out) (by omega)).mono ?_
  rintro e w19 ⟨v, rfl, hown, hb⟩
  obtain ⟨A6, c6, rfl, h6⟩ := own_bs hown
  have H6 := Lib.hid h6
  have H7 := Lib.hid (H5.out.below hb)
  have Hb19 := Lib.hid (Hb18.out.trans (hb.mono Hb18.out.size))
  clear hown hb h6 Hb18 H5
  rw [sha_len]
  go_wp2_with fail
  refine (same_at (sha d) A5 A6 32 c5 c6 w19 (sha_len d) H7.out H6.out).mono ?_
  rintro e w20 ⟨rfl, hb⟩
  have Hb20 := Lib.hid (Hb19.out.trans (hb.mono Hb19.out.size))
  clear hb Hb19 H6 H7
  go_wp2_with fail
  refine (num_any k2 _).mono ?_
  rintro e w21 ⟨rfl, rfl⟩
  go_wp2_with fail
  go_ret
  exact ⟨rfl, Hb2.out.trans (Hb20.out.mono Hb2.out.size)⟩
end Go.Proofs.YtfbdjfljgcfikaaDoor
