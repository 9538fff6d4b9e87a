/-
  bill.Quote: a text in quotes, over strings.Builder.
-/
import Derived.Test.YtlljjddgbilipaaGreatDoorTxWds
import Derived.Test.YtlljjddgbilipaaGreatDoorTxBuild
import Derived.StillTailTactics
namespace Go.Proofs.YtlljjddgbilipaaGreatDoor
open Go.RowKit

set_option linter.unusedSimpArgs false

attribute [local go_sem] lt1 lt2 lt3 lt4 lt5 lt6

/-- a builder of the call's own holds the bytes l -/
def Bld (w : World) (l : List UInt8) (wr : World) : Prop := Lib.IsBuilder 121 5 w.heap.size w.heap.size (u8s l) wr ∧ Below w.heap.size w wr
theorem Bld.fresh (w : World) : Bld w [] (w.alloc (.cells #[.pointer none, .slice none 0 0] 121)) := ⟨Lib.fresh_isBuilder _ _ w, (Below.refl _ _).alloc (Nat.le_refl _) _⟩
theorem Bld.write {w wr : World} {l : List UInt8} (h : Bld w l wr) (hl : l.length ≤ 100000000) (x : UInt8) {c : Int} (hc : c = (x.toNat : Nat)) :
    Calls Tryz.prog 59 #[.pointer (some ⟨w.heap.size, 0, none⟩), .int .u8 c] wr fun e w' => e = .returned .nilIface ∧ Bld w (l ++ [x]) w' := by
  subst hc
  refine (Tryz.write_byte w.heap.size w.heap.size (u8s l) (x.toNat : Nat) wr h.1 (by rw [u8s_length]; omega) h.2.size).mono ?_
  rintro e w' ⟨rfl, hb, hB⟩
  refine ⟨rfl, .inr ?_, h.2.trans hB⟩
  simpa [u8s] using hb
theorem Bld.writes {w wr : World} {l : List UInt8} (h : Bld w l wr) (s : ByteArray) (hl : l.length + s.size ≤ 100000000) :
    Calls Tryz.prog 61 #[.pointer (some ⟨w.heap.size, 0, none⟩), .string s] wr fun e w' => e = .returned (.tuple #[.int .i64 s.size, .nilIface]) ∧ Bld w (l ++ toL s) w' := by
  refine (Tryz.write_string w.heap.size w.heap.size (u8s l) s wr h.1 (by rw [u8s_length]; omega) h.2.size).mono ?_
  rintro e w' ⟨rfl, hb, hB⟩
  refine ⟨rfl, .inr ?_, h.2.trans hB⟩
  rw [show u8s (l ++ toL s) = u8s l ++ Lib.strCells s by simp [u8s, Lib.strCells, toL]]
  exact hb
theorem Bld.string {w wr : World} {l : List UInt8} (h : Bld w l wr) : Calls Tryz.prog 62 #[.pointer (some ⟨w.heap.size, 0, none⟩)] wr fun e w' => e = .returned (.string ⟨l.toArray⟩) ∧ Below w.heap.size w w' :=
  (Tryz.builder_string w.heap.size w.heap.size l wr h.1 h.2.size).mono fun _ _ ⟨he, hB⟩ => ⟨he, h.2.trans hB⟩
theorem Bld.drewN {w wr : World} {l : List UInt8} (h : Bld w l wr) (n : Nat) : Bld w l (wr.drewN n) := by
  refine ⟨?_, below_drewN h.2 n⟩
  rcases h.1 with ⟨h1, v, hv, hown, hne⟩ | ⟨h1, v, hv, hown, hne⟩
  · exact .inl ⟨h1, v, hv, own_keep hown fun _ _ hg => hg, hne⟩
  · exact .inr ⟨h1, v, hv, own_keep hown fun _ _ hg => hg, hne⟩
theorem hexB_at : ∀ a : Fin 16, toL (hexB.extract a.val (a.val + 1)) = [hexD a.val] := by decide +kernel
theorem quoteB_len (c : UInt8) : (quoteB c).length ≤ 6 := by
  unfold quoteB
  split
  · simp
  · split <;> simp
theorem quotes_len : ∀ l : List UInt8, (l.flatMap quoteB).length ≤ 6 * l.length
  | [] => by simp
  | c :: r => by
    have h1 := quoteB_len c
    have h2 := quotes_len r
    simp only [List.flatMap_cons, List.length_append, List.length_cons]
    omega
theorem toL_append (a b : ByteArray) : toL (a ++ b) = toL a ++ toL b := by unfold toL; rw [ByteArray.data_append, Array.toList_append]
def QbRel (w : World) (s : ByteArray) (iv : Value) (wr : World) : Prop := ∃ i : Nat, i ≤ s.size ∧ iv = .int .i64 i ∧ Bld w (34 :: ((toL s).take i).flatMap quoteB) wr
theorem quote_step {l : List UInt8} {i : Nat} (h : i < l.length) : 34 :: (l.take (i + 1)).flatMap quoteB = (34 :: (l.take i).flatMap quoteB) ++ quoteB (l.getD i 0) := by
  rw [take_succ_getD h, List.flatMap_append]
  simp
theorem odd_no_esc {c : UInt8} (h : oddB c = true) : ¬ (c = 34 ∨ c = 92) := by
  rintro (rfl | rfl) <;> exact absurd h (by decide)
set_option maxRecDepth 100000 in
set_option maxHeartbeats 4000000 in
theorem quote_any (w : World) (s : ByteArray) (hl : s.size ≤ 1048576) :
    Calls Tryz.prog 46 #[.string s] w fun e w' => e = .returned (.string (mkS (quoteL (toL s)))) ∧ Below w.heap.size w w' := by
  go_enter Tryz.func46, Tryz.ntmps46
  have H0 := Lib.hid (Bld.fresh w)
  go_wp2_with fail
  refine (H0.out.write (by simp) 34 rfl).mono ?_
  rintro e w1 ⟨rfl, h1⟩
  have H1 := Lib.hid h1
  clear h1 H0
  have hg := H1.out.2.size
  go_wp2_with fail
  go_loopw [4] (fun iv wr => QbRel w s iv wr) (fun iv _ => s.size - (intOf iv).toNat)
  case atStart => exact ⟨0, by omega, rfl, by simpa using H1.out⟩
  case round =>
    obtain ⟨i, hi, rfl, hb⟩ := hrel
    have H := Lib.hid hb
    clear hb H1 hg
    have hir : (0 : Int) ≤ i := by omega
    have hlen : Hid ((34 :: ((toL s).take i).flatMap quoteB).length ≤ 6 * s.size + 1) := Lib.hid (by
      have := quotes_len ((toL s).take i)
      rw [List.length_take, toL_len] at this
      simp only [List.length_cons]
      omega)
    by_cases hlt : i < s.size
    case neg =>
      have hIl : ¬ (i : Int) < s.size := by omega
      have Hfull : Hid (34 :: ((toL s).take i).flatMap quoteB ++ [34] = quoteL (toL s)) := Lib.hid (by
        rw [List.take_of_length_le (by rw [toL_len]; omega)]; rfl)
      generalize 34 :: ((toL s).take i).flatMap quoteB = T at *
      go_wp2_with fail
      refine (H.out.write (by have := hlen.out; omega) 34 rfl).mono ?_
      rintro e w1 ⟨rfl, h1⟩
      have H1 := Lib.hid h1
      clear h1
      go_wp2_with fail
      refine H1.out.string.mono ?_
      rintro e w2 ⟨rfl, hB⟩
      rw [Hfull.out]
      have HB := Lib.hid hB
      clear hB
      go_wp2_with fail
      go_ret
      exact ⟨rfl, HB.out⟩
    have hIl : (i : Int) < s.size := by omega
    have hbt := str_byte hlt
    have Hst := Lib.hid (quote_step (l := toL s) (i := i) (by rw [toL_len]; omega))
    obtain ⟨c, hc⟩ : ∃ c, c = (toL s).getD i 0 := ⟨_, rfl⟩
    rw [← hc] at hbt Hst
    have Hfin : Hid (∀ wx, Bld w ((34 :: ((toL s).take i).flatMap quoteB) ++ quoteB c) wx → QbRel w s (.int .i64 ((i : Int) + 1)) wx) := Lib.hid fun wx hx => ⟨i + 1, by omega, rfl, by rw [Hst.out]; exact hx⟩
    clear hc Hst
    generalize 34 :: ((toL s).take i).flatMap quoteB = T at *
    go_wp2_with fail
    refine (odd_bill c _).mono ?_
    rintro e w1 ⟨rfl, rfl⟩
    cases ho : oddB c with
    | true =>
      have Hq : Hid (quoteB c = [92, 117, 48, 48, hexD (c.toNat / 16), hexD (c.toNat % 16)]) := Lib.hid (by unfold quoteB; rw [if_neg (odd_no_esc ho), if_pos ho])
      have q1 : (c.toNat : Int).tdiv 16 = ((c.toNat / 16 : Nat) : Int) := by rw [Int.tdiv_eq_ediv_of_nonneg (by omega)]; omega
      have q2 : (c.toNat : Int).tmod 16 = ((c.toNat % 16 : Nat) : Int) := by rw [Int.tmod_eq_emod_of_nonneg (by omega)]; omega
      have hcl := c.toNat_lt
      have ha : c.toNat / 16 < 16 := by omega
      have hb : c.toNat % 16 < 16 := by omega
      clear ho
      go_wp2_with fail
      generalize c.toNat / 16 = a at *
      generalize c.toNat % 16 = b at *
      have a1 : IntKind.u8.wrap (a : Int) = a := wrap_u8 (by omega) (by omega)
      have a2 : IntKind.u8.wrap ((a : Int) + 1) = (a : Int) + 1 := wrap_u8 (by omega) (by omega)
      have b1 : IntKind.u8.wrap (b : Int) = b := wrap_u8 (by omega) (by omega)
      have b2 : IntKind.u8.wrap ((b : Int) + 1) = (b : Int) + 1 := wrap_u8 (by omega) (by omega)
      have a3 : (0 : Int) ≤ a := by omega
      have a4 : (a : Int) ≤ (a : Int) + 1 := by omega
      have a5 : (a : Int) + 1 ≤ 16 := by omega
      have a6 : ((a : Int) + 1).toNat = a + 1 := by omega
      have a7 : (0 : Int) ≤ (a : Int) + 1 := by omega
      have b3 : (0 : Int) ≤ b := by omega
      have b4 : (b : Int) ≤ (b : Int) + 1 := by omega
      have b5 : (b : Int) + 1 ≤ 16 := by omega
      have b6 : ((b : Int) + 1).toNat = b + 1 := by omega
      have b7 : (0 : Int) ≤ (b : Int) + 1 := by omega
      obtain ⟨A1, h1⟩ : ∃ A : ByteArray, (⟨#[48, 49, 50, 51, 52, 53, 54, 55, 56, 57, 97, 98, 99, 100, 101, 102]⟩ : ByteArray).extract a (a + 1) = A := ⟨_, rfl⟩
      obtain ⟨A2, h2⟩ : ∃ A : ByteArray, (⟨#[48, 49, 50, 51, 52, 53, 54, 55, 56, 57, 97, 98, 99, 100, 101, 102]⟩ : ByteArray).extract b (b + 1) = A := ⟨_, rfl⟩
      obtain ⟨A3, h3⟩ : ∃ A : ByteArray, (⟨#[92, 117, 48, 48]⟩ : ByteArray) ++ A1 = A := ⟨_, rfl⟩
      obtain ⟨A4, h4⟩ : ∃ A : ByteArray, A3 ++ A2 = A := ⟨_, rfl⟩
      have t1 : toL A1 = [hexD a] := by rw [← h1]; exact hexB_at ⟨a, ha⟩
      have t2 : toL A2 = [hexD b] := by rw [← h2]; exact hexB_at ⟨b, hb⟩
      have t3 : toL A3 = [92, 117, 48, 48, hexD a] := by rw [← h3, toL_append, t1]; rfl
      have t4 : toL A4 = [92, 117, 48, 48, hexD a, hexD b] := by rw [← h4, toL_append, t2, t3]; rfl
      have z1 : A1.size = 1 := by rw [← toL_len, t1]; rfl
      have z2 : A2.size = 1 := by rw [← toL_len, t2]; rfl
      have z3 : A3.size = 5 := by rw [← toL_len, t3]; rfl
      have z4 : A4.size = 6 := by rw [← toL_len, t4]; rfl
      have T4 := Lib.hid t4
      have Z4 := Lib.hid z4
      clear t1 t2 t3 t4 z4 ha hb
      go_still_tail 14, (by kernel_rfl)
      have Hd := Lib.hid (H.out.drewN 1)
      change wpList _ _ _ _ _ wr.drew
      change Hid (Bld w T wr.drew) at Hd
      generalize wr.drew = w2 at *
      clear a1 a2 a3 a4 a5 a6 a7 b1 b2 b3 b4 b5 b6 b7 h1 h2 h3 h4 q1 q2 z1 z2 z3
      go_wp2_with fail
      refine (Hd.out.writes A4 (by have := hlen.out; have := Z4.out; omega)).mono ?_
      rintro e w3 ⟨rfl, hw3⟩
      rw [T4.out, ← Hq.out] at hw3
      have Hf := Lib.hid (Hfin.out _ hw3)
      clear hw3
      go_wp2_with fail
      exact ⟨Hf.out, by simp [intOf]; omega⟩
    | false =>
      by_cases he : c = 34 ∨ c = 92
      · have hq : quoteB c = [92, c] := by unfold quoteB; rw [if_pos he]
        have hE : ((c.toNat : Int) == 34) = true ∨ ((c.toNat : Int) == 34) = false ∧ ((c.toNat : Int) == 92) = true := by
          rcases he with rfl | rfl
          · exact .inl rfl
          · exact .inr ⟨rfl, rfl⟩
        have Hq := Lib.hid hq
        clear ho he hq
        rcases hE with h34 | ⟨h34, h92⟩
        all_goals
          go_wp2_with fail
          refine (H.out.write (by have := hlen.out; omega) 92 rfl).mono ?_
          rintro e w2 ⟨rfl, hw2⟩
          have H2 := Lib.hid hw2
          clear hw2
          go_wp2_with fail
          refine (H2.out.write (by have := hlen.out; simp; omega) c rfl).mono ?_
          rintro e w3 ⟨rfl, hw3⟩
          rw [List.append_assoc, List.singleton_append, ← Hq.out] at hw3
          have Hf := Lib.hid (Hfin.out _ hw3)
          clear hw3
          go_wp2_with fail
          exact ⟨Hf.out, by simp [intOf]; omega⟩
      · have hq : quoteB c = [c] := by unfold quoteB; rw [if_neg he, if_neg (by rw [ho]; decide)]
        have h34 : ((c.toNat : Int) == 34) = false := by rw [beq_eq_false_iff_ne]; intro h; exact he (.inl (UInt8.toNat_inj.1 (by show c.toNat = 34; omega)))
        have h92 : ((c.toNat : Int) == 92) = false := by rw [beq_eq_false_iff_ne]; intro h; exact he (.inr (UInt8.toNat_inj.1 (by show c.toNat = 92; omega)))
        have Hq := Lib.hid hq
        clear ho he hq
        go_wp2_with fail
        refine (H.out.write (by have := hlen.out; omega) c rfl).mono ?_
        rintro e w3 ⟨rfl, hw3⟩
        rw [← Hq.out] at hw3
        have Hf := Lib.hid (Hfin.out _ hw3)
        clear hw3
        go_wp2_with fail
        exact ⟨Hf.out, by simp [intOf]; omega⟩
end Go.Proofs.YtlljjddgbilipaaGreatDoor
