/-
  The lexer's next token.
-/
import Derived.Test.YtniphdhbgebedaaGreatDoorScBk
namespace Go.Proofs.YtniphdhbgebedaaGreatDoor
open Go.RowKit Go.Maps

set_option linter.unusedSimpArgs false

attribute [local go_sem] lt1 lt2 lt3 lt4 lt5 lt6

theorem quoF_len : ∀ (l b : List UInt8) (k : Nat) {b' : List UInt8} {n : Nat}, quoF l b k = some (b', n) → k < n ∧ n ≤ k + l.length
  | l, b, k, b', n, h => by
    unfold quoF at h
    split at h
    · cases h
    · cases h; simp
    · cases h
    · rename_i c r
      split at h
      · have := quoF_len r _ _ h
        simp only [List.length_cons]; omega
      · cases h
    · cases h
    · rename_i c r _ _ _ _
      have := quoF_len r _ _ h
      simp only [List.length_cons]; omega
theorem tw_in {p : UInt8 → Bool} : ∀ {l : List UInt8} {i : Nat}, i < (l.takeWhile p).length → p (l.getD i 0) = true
  | [], i, h => by simp at h
  | x :: r, i, h => by
    rw [List.takeWhile_cons] at h
    split at h
    · rename_i hp
      cases i with
      | zero => simpa using hp
      | succ i => simpa using tw_in (l := r) (i := i) (by simpa using h)
    · simp at h
theorem tw_out {p : UInt8 → Bool} : ∀ {l : List UInt8}, (l.takeWhile p).length < l.length → p (l.getD (l.takeWhile p).length 0) = false
  | [], h => by simp at h
  | x :: r, h => by
    rw [List.takeWhile_cons] at h ⊢
    split at h
    · rename_i hp
      rw [if_pos hp]
      simpa using tw_out (l := r) (by simpa using h)
    · rename_i hp
      rw [if_neg hp]
      simpa using hp
theorem tw_le (p : UInt8 → Bool) (l : List UInt8) : (l.takeWhile p).length ≤ l.length := (List.takeWhile_prefix p).length_le
theorem nb {c d : UInt8} (h : c ≠ d) : ((c.toNat : Int) == (d.toNat : Int)) = false := by
  rw [beq_eq_false_iff_ne]
  intro hh
  exact h (UInt8.toNat_inj.1 (by omega))
def OnPost (w : World) (k : Int) (s : ByteArray) (line : Nat) (e : Ending) (w' : World) : Prop := ∃ A, e = .returned (.slice A 1 1) ∧ SlF w.heap.size w' A 1 1 3 [.int .u8 k, .string s, .int .i64 (line : Nat)] ∧ Below w.heap.size w w'
set_option maxHeartbeats 1000000 in
theorem one_any (w : World) (g : Nat) (line : Nat) (k : Int) (s : ByteArray) (h : w.cell? ⟨g, 0, none⟩ = some (.int .i64 (line : Nat))) :
    Calls Tryz.prog 87 #[.int .u8 k, .string s, .pointer (some ⟨g, 0, none⟩)] w (OnPost w k s line) := by
  go_enter Tryz.func87, Tryz.ntmps87
  go_wp2_with fail
  go_ret
  refine ⟨some ⟨w.heap.size, 0, none⟩, rfl, ?_, (Below.refl w.heap.size w).alloc (Nat.le_refl _) _⟩
  refine ⟨?_, fun a ha => by cases ha; exact Nat.le_refl _⟩
  exact ⟨rfl, by simp, Nat.le_refl _, by simp [maxLen], fun _ => ⟨w.heap.size, 0, rfl, fun j hj => by
    rw [World.cell?, show (w.alloc (.cells #[.int .u8 k, .string s, .int .i64 (line : Nat)] 70)).heap[w.heap.size]? = some (.cells #[.int .u8 k, .string s, .int .i64 (line : Nat)] 70 (0, 0)) from heap_alloc_new _ _]; simp⟩⟩
theorem lx_one {w y z : World} {b : Nat} {l' : Lx} {A : Option Addr} {k : UInt8} {s : List UInt8} {line : Nat} {R : List Tok × Lx} (hR : R = ([⟨k, s, line⟩], l')) (hF : Fr [b] w y) (hL : LexAt y b l') (hS : SlF y.heap.size z A 1 1 3 [.int .u8 (k.toNat : Int), .string (mkS s), .int .i64 (line : Nat)]) (hB : Below y.heap.size y z) : LxPost w b R (.returned (.slice A 1 1)) z := by
  rw [hR]
  exact ⟨A, 1, rfl, ⟨hS.1, fun a ha => Nat.le_trans hF.size (hS.2 a ha)⟩, (hB.block _ (lt_of_heap hL)).trans hL, hF.trans (Fr.of_below hB _)⟩
theorem pre2 (a : UInt8) (c : UInt8) (r : List UInt8) : Lib.hasPrefix (c :: r) [47, a] = decide (c = 47 ∧ r.head? = some a) := by
  unfold Lib.hasPrefix
  rw [Bool.eq_iff_iff, decide_eq_true_iff]
  cases r with
  | nil => simp [List.isPrefixOf]
  | cons d r =>
    simp only [List.isPrefixOf, Bool.and_true, Bool.and_eq_true, beq_iff_eq, List.head?_cons, Option.some.injEq]
    constructor
    · rintro ⟨h1, h2⟩; exact ⟨h1.symm, h2.symm⟩
    · rintro ⟨h1, h2⟩; exact ⟨h1.symm, h2.symm⟩
theorem sg_ge (c : UInt8) : ∃ z : Int, Lib.indexByte [40, 41, 59, 46] c = z ∧ (z ≥ 0 ↔ c = 40 ∨ c = 41 ∨ c = 59 ∨ c = 46) := by
  refine ⟨_, rfl, ?_⟩
  rw [idx_lib]
  simp only [idx]
  by_cases h1 : c = 40
  · subst h1; simp
  · by_cases h2 : c = 41
    · subst h2; simp
    · by_cases h3 : c = 59
      · subst h3; simp
      · by_cases h4 : c = 46
        · subst h4; simp
        · have e : ∀ {d : UInt8}, c ≠ d → ¬ d = c := fun h hh => h hh.symm
          simp [h1, h2, h3, h4, e h1, e h2, e h3, e h4]
def NxRel (r : List UInt8) (x : World) (iv : Value) (wr : World) : Prop := ∃ n : Nat, iv = .int .i64 (n : Nat) ∧ 1 ≤ n ∧ n ≤ 1 + (r.takeWhile fun x => letB x || digB x).length ∧ wr = x
theorem lx_pass {w x z : World} {b : Nat} {R : List Tok × Lx} {A : Option Addr} {n c : Nat} (hF : Fr [b] w x) (h1 : n = R.1.length) (h2 : SlF x.heap.size z A c R.1.length 3 (tksV R.1)) (h3 : LexAt z b R.2) (h4 : Fr [b] x z) : LxPost w b R (.returned (.slice A n c)) z := ⟨A, c, by rw [h1], ⟨h2.1, fun a ha => Nat.le_trans hF.size (h2.2 a ha)⟩, h3, hF.trans h4⟩
theorem hid_lx {x z : World} {b : Nat} {R : List Tok × Lx} {e : Ending} (h : LxPost x b R e z) : ∃ A n c, e = .returned (.slice A n c) ∧ n = R.1.length ∧ Hid (SlF x.heap.size z A c R.1.length 3 (tksV R.1)) ∧ Hid (LexAt z b R.2) ∧ Hid (Fr [b] x z) := by
  obtain ⟨A, c, h1, h2, h3, h4⟩ := h
  exact ⟨A, _, c, h1, rfl, Lib.hid h2, Lib.hid h3, Lib.hid h4⟩
theorem next_block {c : UInt8} {r : List UInt8} (line : Nat) (first : Bool) (h1 : c = 47) (h2 : r.head? = some 42) : blockR ⟨c :: r, line, first⟩ = Lx.next ⟨c :: r, line, first⟩ := by
  subst h1
  unfold Lx.next blockR
  simp only [h2]
  rw [show List.drop 2 (47 :: r) = r.drop 1 from by cases r <;> rfl]
  cases idx2 42 47 (r.drop 1) with
  | none => simp
  | some n => simp [nlT]
theorem c_take (c : UInt8) (r : List UInt8) (n : Nat) : (mkS ((c :: r).take (n + 2))).extract 1 (n + 1) = mkS (r.take n) := by
  apply toL_inj
  rw [toL_extract, toL_mkS, toL_mkS]
  simp [List.take_take]
set_option maxRecDepth 100000 in
set_option maxHeartbeats 8000000 in
theorem next_any (w : World) (b : Nat) (l : Lx) (h : LexAt w b l) (hg : Glob w) (hr : l.rest.length ≤ 1048576) (hl : l.line ≤ 1048577) (hne : l.rest ≠ []) (_hb0 : b ≠ 0) :
    Calls Tryz.prog 64 #[.pointer (some ⟨b, 0, none⟩)] w (LxPost w b (Lx.next l)) := by
  obtain ⟨rest, line, first⟩ := l
  obtain ⟨c, r, rfl⟩ := List.exists_cons_of_ne_nil hne
  clear hne
  simp only at hr hl
  obtain ⟨R, hR⟩ : ∃ R, R = Lx.next ⟨c :: r, line, first⟩ := ⟨_, rfl⟩
  rw [← hR]
  have HR := Lib.hid hR
  have hk : w.heap[b]? = some (.cells #[.string (mkS (c :: r)), .int .i64 (line : Nat), .bool first] 94 (0, 0)) := h
  have hbl := lt_of_heap hk
  obtain ⟨x0, hx0⟩ : ∃ x0, x0 = w.alloc (.cells #[.int .i64 (line : Nat)] 3) := ⟨_, rfl⟩
  have hk0 : x0.heap[b]? = some (.cells #[.string (mkS (c :: r)), .int .i64 (line : Nat), .bool first] 94 (0, 0)) := by rw [hx0, heap_alloc_old _ _ hbl]; exact hk
  have HL : Hid (LexAt x0 b ⟨c :: r, line, first⟩) := Lib.hid hk0
  have hc0 : x0.heap[w.heap.size]? = some (.cells #[.int .i64 (line : Nat)] 3 (0, 0)) := by rw [hx0]; exact heap_alloc_new _ _
  have hB0 : Below w.heap.size w x0 := by rw [hx0]; exact (Below.refl _ _).alloc (Nat.le_refl _) _
  have HF0 : Hid (Fr [b] w x0) := Lib.hid (Fr.of_below hB0 _)
  have HG0 := Lib.hid (hg.below hB0 hg.pos)
  have Hx0 := Lib.hid hx0
  have Hk := Lib.hid hk
  have Hk0 := Lib.hid hk0
  have Hc0 := Lib.hid hc0
  obtain ⟨S, hS⟩ : ∃ S, S = mkS (c :: r) := ⟨_, rfl⟩
  have hSz : S.size = r.length + 1 := by rw [hS]; simp [mkS, ByteArray.size]
  have hS0 : 0 < S.size := by omega
  have hSc : S[0] = c := by rw [str_byte hS0, hS]; rfl
  have k0 : w.cell? ⟨b, 0, none⟩ = some (.string S) := by rw [hS]; exact (blk_cells hk).1 0
  have k1 : w.cell? ⟨b, 1, none⟩ = some (.int .i64 (line : Nat)) := (blk_cells hk).1 1
  have c0 : x0.cell? ⟨b, 0, none⟩ = some (.string S) := by rw [hS]; exact (blk_cells hk0).1 0
  have HS := Lib.hid hS
  clear h hg hk hk0 hc0 hB0 hR hx0 hS hSz
  have htk : ∀ n, n ≤ (c :: r).length → 1 ≤ n → Calls Tryz.prog 88 #[.pointer (some ⟨b, 0, none⟩), .int .i64 (n : Nat)] x0 (TkPost x0 b ⟨c :: r, line, first⟩ n) := fun n h1 h2 => take_any x0 b ⟨c :: r, line, first⟩ HL.out hr hl n h1 h2
  have Htk := Lib.hid htk
  have Htk1 : Hid (Calls Tryz.prog 88 #[.pointer (some ⟨b, 0, none⟩), .int .i64 1] x0 (TkPost x0 b ⟨c :: r, line, first⟩ 1)) := Lib.hid (htk 1 (by simp) (by omega))
  have Hcell : Hid (∀ y, Fr [b] x0 y → y.cell? ⟨w.heap.size, 0, none⟩ = some (.int .i64 (line : Nat))) := Lib.hid (fun y hF => (World.cell?_of_block (hF.block _ (lt_of_heap Hc0.out) (by simp; omega))).trans ((blk_cells Hc0.out).1 0))
  clear htk
  have hrl : r.length + 1 ≤ 1048576 := by simpa using hr
  clear hr
  go_enter Tryz.func64, Tryz.ntmps64
  by_cases hsp : c = 32 ∨ c = 9 ∨ c = 13
  · have HR2 : Hid (R = ([], Lx.take ⟨c :: r, line, first⟩ 1)) := Lib.hid (by rw [HR.out]; unfold Lx.next; simp only [hsp, if_true])
    have h3 : ((c.toNat : Int) == 32) = true ∨ (((c.toNat : Int) == 32) = false ∧ ((c.toNat : Int) == 9) = true) ∨ (((c.toNat : Int) == 32) = false ∧ ((c.toNat : Int) == 9) = false ∧ ((c.toNat : Int) == 13) = true) := by
      rcases hsp with rfl | rfl | rfl
      · exact .inl rfl
      · exact .inr (.inl ⟨rfl, rfl⟩)
      · exact .inr (.inr ⟨rfl, rfl, rfl⟩)
    clear hsp
    rcases h3 with h3 | ⟨h3, h4⟩ | ⟨h3, h4, h5⟩ <;>
    · go_wp2_with fail
      rw [← Hx0.out]
      refine Htk1.out.mono ?_
      rintro e y ⟨rfl, hL2, hF2⟩
      have HL2 := Lib.hid hL2
      have HF2 : Hid (Fr [b] x0 y) := Lib.hid ⟨hF2.os, hF2.tape, hF2.output, hF2.size, hF2.block⟩
      clear hL2 hF2 Htk1
      go_wp2_with fail
      go_ret
      rw [HR2.out]
      exact ⟨none, 0, rfl, slf_none _ _, HL2.out, HF0.out.trans HF2.out⟩
  · have n32 : ((c.toNat : Int) == 32) = false := nb (d := 32) (fun h => hsp (.inl h))
    have n9 : ((c.toNat : Int) == 9) = false := nb (d := 9) (fun h => hsp (.inr (.inl h)))
    have n13 : ((c.toNat : Int) == 13) = false := nb (d := 13) (fun h => hsp (.inr (.inr h)))
    by_cases h10 : c = 10
    · have HR2 : Hid (R = ([⟨59, [], line⟩], Lx.take ⟨c :: r, line, first⟩ 1)) := Lib.hid (by rw [HR.out, h10]; unfold Lx.next; simp)
      have n10 : ((c.toNat : Int) == 10) = true := by rw [h10]; rfl
      clear hsp h10
      go_wp2_with fail
      rw [← Hx0.out]
      refine Htk1.out.mono ?_
      rintro e y ⟨rfl, hL2, hF2⟩
      have HL2 := Lib.hid hL2
      have HF2 : Hid (Fr [b] x0 y) := Lib.hid ⟨hF2.os, hF2.tape, hF2.output, hF2.size, hF2.block⟩
      have cl := Hcell.out y HF2.out
      clear hL2 hF2 Htk1
      go_wp2_with fail
      refine (one_any y w.heap.size line 59 ⟨#[]⟩ cl).mono ?_
      rintro e z ⟨A, rfl, hS3, hB3⟩
      have HS3 := Lib.hid hS3
      have HB3 := Lib.hid hB3
      clear hS3 hB3
      go_wp2_with fail
      go_ret
      exact lx_one HR2.out (HF0.out.trans HF2.out) HL2.out HS3.out HB3.out
    · have n10 : ((c.toNat : Int) == 10) = false := nb (d := 10) h10
      have hp1 := Tryz.strings_HasPrefix S ⟨#[47, 47]⟩ x0
      rw [show S.data.toList = c :: r from by rw [HS.out]; rfl, show (⟨#[47, 47]⟩ : ByteArray).data.toList = [47, 47] from rfl, pre2] at hp1
      have Hp1 := Lib.hid hp1
      clear hp1
      go_wp2_with fail
      rw [← Hx0.out]
      refine Hp1.out.mono ?_
      rintro e y ⟨rfl, hy⟩
      rw [hy]
      clear Hp1 hy
      by_cases h47 : c = 47 ∧ r.head? = some 47
      · have hpos : 1 ≤ (idx 10 (c :: r)).getD (c :: r).length := by
          rw [idx, if_neg h10]
          cases idx 10 r with
          | none => simp
          | some m => simp
        have hcm := comment_any x0 b ⟨c :: r, line, first⟩ HL.out (by simpa using hrl) hl hpos
        rw [show commentR ⟨c :: r, line, first⟩ = R from by rw [HR.out]; unfold Lx.next; simp only [hsp, h10, h47.1, h47.2, if_true, if_false, and_self]; rfl] at hcm
        have Hcm := Lib.hid hcm
        rw [decide_eq_true h47]
        clear hcm hpos h47 hsp h10
        go_wp2_with fail
        refine Hcm.out.mono ?_
        intro e z hz
        obtain ⟨A, n, cc, rfl, hn, HS4, HL4, HF4⟩ := hid_lx hz
        clear hz Hcm
        go_wp2_with fail
        go_ret
        exact lx_pass HF0.out (by first | exact hn | rfl) HS4.out HL4.out HF4.out
      · rw [decide_eq_false h47]
        have hp2 := Tryz.strings_HasPrefix S ⟨#[47, 42]⟩ x0
        rw [show S.data.toList = c :: r from by rw [HS.out]; rfl, show (⟨#[47, 42]⟩ : ByteArray).data.toList = [47, 42] from rfl, pre2] at hp2
        have Hp2 := Lib.hid hp2
        clear hp2
        go_wp2_with fail
        refine Hp2.out.mono ?_
        rintro e y ⟨rfl, hy⟩
        rw [hy]
        clear Hp2 hy
        by_cases h42 : c = 47 ∧ r.head? = some 42
        · have h2 : 2 ≤ (c :: r).length := by
            cases r with
            | nil => simp at h42
            | cons d r => simp
          have hbk := block_any x0 b ⟨c :: r, line, first⟩ HL.out HG0.out (by simpa using hrl) hl h2
          rw [show blockR ⟨c :: r, line, first⟩ = R from by rw [HR.out]; exact next_block line first h42.1 h42.2] at hbk
          have Hbk := Lib.hid hbk
          rw [decide_eq_true h42]
          clear hbk h2 h42 hsp h10 h47
          go_wp2_with fail
          refine Hbk.out.mono ?_
          intro e z hz
          obtain ⟨A, n, cc, rfl, hn, HS4, HL4, HF4⟩ := hid_lx hz
          clear hz Hbk
          go_wp2_with fail
          go_ret
          exact lx_pass HF0.out (by first | exact hn | rfl) HS4.out HL4.out HF4.out
        · rw [decide_eq_false h42]
          obtain ⟨z, hz, hzi⟩ := sg_ge c
          have hsg := Tryz.strings_IndexByte ⟨#[40, 41, 59, 46]⟩ (c.toNat : Int) x0
          rw [show (⟨#[40, 41, 59, 46]⟩ : ByteArray).data.toList = [40, 41, 59, 46] from rfl, show ((c.toNat : Int)).toNat.toUInt8 = c from by simp, hz] at hsg
          have Hsg := Lib.hid hsg
          clear hsg
          go_wp2_with fail
          refine Hsg.out.mono ?_
          rintro e y ⟨rfl, hy⟩
          rw [hy]
          clear Hsg hy hz
          by_cases hs4 : c = 40 ∨ c = 41 ∨ c = 59 ∨ c = 46
          · have hz0 : z ≥ 0 := hzi.2 hs4
            have HR2 : Hid (R = ([⟨c, [], line⟩], Lx.take ⟨c :: r, line, first⟩ 1)) := Lib.hid (by rw [HR.out]; unfold Lx.next; simp only [hsp, h10, h47, h42, hs4, if_true, if_false])
            clear hsp h10 h47 h42 hs4 hzi
            go_wp2_with fail
            refine Htk1.out.mono ?_
            rintro e y ⟨rfl, hL2, hF2⟩
            have HL2 := Lib.hid hL2
            have HF2 : Hid (Fr [b] x0 y) := Lib.hid ⟨hF2.os, hF2.tape, hF2.output, hF2.size, hF2.block⟩
            have cl := Hcell.out y HF2.out
            clear hL2 hF2 Htk1
            go_wp2_with fail
            refine (one_any y w.heap.size line (c.toNat : Int) ⟨#[]⟩ cl).mono ?_
            rintro e z ⟨A, rfl, hS3, hB3⟩
            have HS3 := Lib.hid hS3
            have HB3 := Lib.hid hB3
            clear hS3 hB3
            go_wp2_with fail
            go_ret
            exact lx_one HR2.out (HF0.out.trans HF2.out) HL2.out HS3.out HB3.out
          · have hz0 : ¬ z ≥ 0 := fun h => hs4 (hzi.1 h)
            have hlt := letter_any c x0
            obtain ⟨LB, hLB⟩ : ∃ LB, LB = letB c := ⟨_, rfl⟩
            rw [← hLB] at hlt
            have Hlt := Lib.hid hlt
            have HLB := Lib.hid hLB
            clear hlt hzi hLB
            go_wp2_with fail
            refine Hlt.out.mono ?_
            rintro e y ⟨rfl, hy⟩
            rw [← hy]
            clear Hlt hy
            rcases Bool.eq_false_or_eq_true LB with hb | hb
            · subst hb
              have HR3 : Hid (R = ([⟨110, (c :: r).take (1 + (r.takeWhile fun x => letB x || digB x).length), line⟩], Lx.take ⟨c :: r, line, first⟩ (1 + (r.takeWhile fun x => letB x || digB x).length))) := Lib.hid (by rw [HR.out]; unfold Lx.next; simp only [hsp, h10, h47, h42, hs4, HLB.out.symm, if_true, if_false])
              have Htl := Lib.hid (tw_le (fun x => letB x || digB x) r)
              have Hti : Hid (∀ n, n < 1 + (r.takeWhile fun x => letB x || digB x).length → 1 ≤ n → (letB ((c :: r).getD n 0) || digB ((c :: r).getD n 0)) = true) := Lib.hid (fun n h1 h2 => by
                have h := tw_in (p := fun x => letB x || digB x) (l := r) (i := n - 1) (by omega)
                obtain ⟨m, rfl⟩ : ∃ m, n = m + 1 := ⟨n - 1, by omega⟩
                simpa using h)
              have Hto : Hid (1 + (r.takeWhile fun x => letB x || digB x).length < 1 + r.length → (letB ((c :: r).getD (1 + (r.takeWhile fun x => letB x || digB x).length) 0) || digB ((c :: r).getD (1 + (r.takeWhile fun x => letB x || digB x).length) 0)) = false) := Lib.hid (fun h => by
                have h := tw_out (p := fun x => letB x || digB x) (l := r) (by omega)
                rw [Nat.add_comm 1]
                simpa using h)
              obtain ⟨M, hM⟩ : ∃ M, M = 1 + (r.takeWhile fun x => letB x || digB x).length := ⟨_, rfl⟩
              rw [← hM] at HR3 Hti Hto
              have hMl : M ≤ S.size := by have := Htl.out; rw [hM, HS.out]; simp [mkS, ByteArray.size]; omega
              have hSb : S.size ≤ 1048576 := by rw [HS.out]; simp [mkS, ByteArray.size]; omega
              have hSr : S.size = 1 + r.length := by rw [HS.out]; simp [mkS, ByteArray.size]; omega
              have HSr := Lib.hid hSr
              have HM := Lib.hid hM
              clear hsp h10 h47 h42 hs4 hM HLB hSr Htl
              go_wp2_with fail
              go_loopw [6] (fun iv wr => ∃ n : Nat, iv = .int .i64 (n : Nat) ∧ 1 ≤ n ∧ n ≤ M ∧ wr = x0) (fun iv _ => S.size - (intOf iv).toNat)
              case atStart => exact ⟨1, rfl, by omega, by have := HM.out; omega, rfl⟩
              case round =>
                obtain ⟨n, rfl, hn1, hnM, rfl⟩ := hrel
                by_cases hlt : n < S.size
                · obtain ⟨d, hd⟩ : ∃ d, d = S[n] := ⟨_, rfl⟩
                  have hdg : d = (c :: r).getD n 0 := by rw [hd, str_byte hlt, HS.out]; rfl
                  have Hd := Lib.hid hd
                  have Hdg := Lib.hid hdg
                  have hnI : (n : Int) < S.size := by omega
                  have hn0 : (0 : Int) ≤ n := by omega
                  clear hd hdg
                  go_wp2_with fail
                  rw [← Hd.out]
                  have hlt2 := letter_any d wr
                  obtain ⟨LB, hLB⟩ : ∃ LB, LB = letB d := ⟨_, rfl⟩
                  rw [← hLB] at hlt2
                  have Hlt2 := Lib.hid hlt2
                  have HLB := Lib.hid hLB
                  clear hlt2 hLB
                  refine Hlt2.out.mono ?_
                  rintro e y ⟨rfl, hy⟩
                  rw [← hy]
                  clear Hlt2 hy
                  rcases Bool.eq_false_or_eq_true LB with hb | hb
                  · subst hb
                    have hnM2 : n < M := by
                      rcases Nat.lt_or_ge n M with h | h
                      · exact h
                      · exfalso
                        have hh := Hto.out (by have := HSr.out; omega)
                        rw [show M = n by omega, ← Hdg.out, ← HLB.out] at hh
                        simp at hh
                    go_wp2_with fail
                    exact ⟨⟨n + 1, by go_num, by omega, by omega, by first | trivial | rfl⟩, by simp [intOf]; omega⟩
                  · subst hb
                    have hlt3 := digit_any d wr
                    obtain ⟨DB, hDB⟩ : ∃ DB, DB = digB d := ⟨_, rfl⟩
                    rw [← hDB] at hlt3
                    have Hlt3 := Lib.hid hlt3
                    have HDB := Lib.hid hDB
                    clear hlt3 hDB
                    go_wp2_with fail
                    rw [← Hd.out]
                    refine Hlt3.out.mono ?_
                    rintro e y ⟨rfl, hy⟩
                    rw [← hy]
                    clear Hlt3 hy
                    rcases Bool.eq_false_or_eq_true DB with hb | hb
                    · subst hb
                      have hnM2 : n < M := by
                        rcases Nat.lt_or_ge n M with h | h
                        · exact h
                        · exfalso
                          have hh := Hto.out (by have := HSr.out; omega)
                          rw [show M = n by omega, ← Hdg.out, ← HLB.out, ← HDB.out] at hh
                          simp at hh
                      go_wp2_with fail
                      exact ⟨⟨n + 1, by go_num, by omega, by omega, by first | trivial | rfl⟩, by simp [intOf]; omega⟩
                    · subst hb
                      have hnM2 : n = M := by
                        rcases Nat.lt_or_ge n M with h | h
                        · exfalso
                          have hh := Hti.out n h hn1
                          rw [← Hdg.out, ← HLB.out, ← HDB.out] at hh
                          simp at hh
                        · omega
                      subst hnM2
                      have Htn := Lib.hid (Htk.out n (by have := HSr.out; simp only [List.length_cons]; omega) hn1)
                      clear Hti Hto Htk
                      go_wp2_with fail
                      refine Htn.out.mono ?_
                      rintro e y ⟨rfl, hL2, hF2⟩
                      have HL2 := Lib.hid hL2
                      have HF2 : Hid (Fr [b] wr y) := Lib.hid ⟨hF2.os, hF2.tape, hF2.output, hF2.size, hF2.block⟩
                      have cl := Hcell.out y HF2.out
                      simp only
                      obtain ⟨T, hT⟩ : ∃ T, T = mkS ((c :: r).take n) := ⟨_, rfl⟩
                      rw [← hT]
                      have HT := Lib.hid hT
                      clear hL2 hF2 Htn hT
                      go_wp2_with fail
                      refine (one_any y w.heap.size line 110 T cl).mono ?_
                      rintro e z ⟨A, rfl, hS3, hB3⟩
                      rw [HT.out] at hS3
                      have HS3 := Lib.hid hS3
                      have HB3 := Lib.hid hB3
                      clear hS3 hB3
                      go_wp2_with fail
                      go_ret
                      exact lx_one HR3.out (HF0.out.trans HF2.out) HL2.out HS3.out HB3.out
                · have hnM2 : n = M := by omega
                  subst hnM2
                  have Htn := Lib.hid (Htk.out n (by have := HSr.out; simp only [List.length_cons]; omega) hn1)
                  have hnI : ¬ (n : Int) < S.size := by omega
                  clear Hti Hto Htk
                  go_wp2_with fail
                  refine Htn.out.mono ?_
                  rintro e y ⟨rfl, hL2, hF2⟩
                  have HL2 := Lib.hid hL2
                  have HF2 : Hid (Fr [b] wr y) := Lib.hid ⟨hF2.os, hF2.tape, hF2.output, hF2.size, hF2.block⟩
                  have cl := Hcell.out y HF2.out
                  simp only
                  obtain ⟨T, hT⟩ : ∃ T, T = mkS ((c :: r).take n) := ⟨_, rfl⟩
                  rw [← hT]
                  have HT := Lib.hid hT
                  clear hL2 hF2 Htn hT
                  go_wp2_with fail
                  refine (one_any y w.heap.size line 110 T cl).mono ?_
                  rintro e z ⟨A, rfl, hS3, hB3⟩
                  rw [HT.out] at hS3
                  have HS3 := Lib.hid hS3
                  have HB3 := Lib.hid hB3
                  clear hS3 hB3
                  go_wp2_with fail
                  go_ret
                  exact lx_one HR3.out (HF0.out.trans HF2.out) HL2.out HS3.out HB3.out
            · subst hb
              have HLf : Hid (letB c = false) := Lib.hid HLB.out.symm
              by_cases h96 : c = 96
              · have n96 : ((c.toNat : Int) == 96) = true := by rw [h96]; rfl
                have HR3 : Hid (R = match idx 96 r with | some n => ([⟨115, r.take n, line⟩], Lx.take ⟨c :: r, line, first⟩ (n + 2)) | none => ([⟨33, openW, line⟩], ⟨c :: r, line, first⟩)) := Lib.hid (by
                  rw [HR.out]; unfold Lx.next; simp only [hsp, h10, h47, h42, hs4, HLf.out, h96, if_true, if_false, Bool.false_eq_true]
                  cases idx 96 r <;> rfl)
                have hix := Tryz.strings_IndexByte (mkS r) 96 x0
                rw [show (96 : Int).toNat.toUInt8 = 96 from rfl, show (mkS r).data.toList = r from toL_mkS r, idx_lib] at hix
                have Hix := Lib.hid hix
                have Hd1 : Hid (S.extract 1 S.size = mkS r) := Lib.hid (by rw [HS.out, drop_bytes]; rfl)
                have hS1 : 1 ≤ S.size := by omega
                have hSb : S.size ≤ 1048576 := by rw [HS.out]; simp [mkS, ByteArray.size]; omega
                clear hix hsp h10 h47 h42 hs4 h96
                go_wp2_with fail
                rw [Hd1.out]
                refine Hix.out.mono ?_
                rintro e y ⟨rfl, hy⟩
                rw [hy]
                clear Hix hy
                cases hi : idx 96 r with
                | none =>
                  have HR4 : Hid (R = ([⟨33, openW, line⟩], ⟨c :: r, line, first⟩)) := Lib.hid (by rw [HR3.out, hi])
                  have cl := Hcell.out x0 (Fr.refl _ _)
                  clear hi HR3
                  simp only
                  go_wp2_with fail
                  refine (one_any x0 w.heap.size line 33 ⟨#[111, 112, 101, 110]⟩ cl).mono ?_
                  rintro e z ⟨A, rfl, hS3, hB3⟩
                  have HS3 := Lib.hid hS3
                  have HB3 := Lib.hid hB3
                  clear hS3 hB3
                  go_wp2_with fail
                  go_ret
                  exact lx_one HR4.out HF0.out HL.out HS3.out HB3.out
                | some n =>
                  have hnl := idx_lt hi
                  have HR4 : Hid (R = ([⟨115, r.take n, line⟩], Lx.take ⟨c :: r, line, first⟩ (n + 2))) := Lib.hid (by rw [HR3.out, hi])
                  have htn := Htk.out (n + 2) (by simp only [List.length_cons]; omega) (by omega)
                  rw [show ((n + 2 : Nat) : Int) = (n : Int) + 2 by omega] at htn
                  have Htn := Lib.hid htn
                  have hnw : IntKind.i64.wrap ((n : Int) + 2) = (n : Int) + 2 := by rw [IntKind.wrap_i64]; omega
                  have hnw1 : IntKind.i64.wrap ((n : Int) + 1) = (n : Int) + 1 := by rw [IntKind.wrap_i64]; omega
                  have hn0 : (n : Int) ≥ 0 := by omega
                  clear hi HR3 htn Htk
                  simp only
                  go_wp2_with fail
                  refine Htn.out.mono ?_
                  rintro e y ⟨rfl, hL2, hF2⟩
                  have HL2 := Lib.hid hL2
                  have HF2 : Hid (Fr [b] x0 y) := Lib.hid ⟨hF2.os, hF2.tape, hF2.output, hF2.size, hF2.block⟩
                  have cl := Hcell.out y HF2.out
                  simp only
                  obtain ⟨T, hT⟩ : ∃ T, T = mkS ((c :: r).take (n + 2)) := ⟨_, rfl⟩
                  rw [← hT]
                  have hTz : T.size = n + 2 := by rw [hT]; simp [mkS, ByteArray.size]; omega
                  have HT : Hid (T.extract 1 (n + 1) = mkS (r.take n)) := Lib.hid (by rw [hT, c_take])
                  clear hL2 hF2 Htn hT
                  go_wp2_with fail
                  rw [HT.out]
                  refine (one_any y w.heap.size line 115 (mkS (r.take n)) cl).mono ?_
                  rintro e z ⟨A, rfl, hS3, hB3⟩
                  have HS3 := Lib.hid hS3
                  have HB3 := Lib.hid hB3
                  clear hS3 hB3
                  go_wp2_with fail
                  go_ret
                  exact lx_one HR4.out (HF0.out.trans HF2.out) HL2.out HS3.out HB3.out
              · have n96 : ((c.toNat : Int) == 96) = false := nb (d := 96) h96
                by_cases h34 : c = 34
                · have n34 : ((c.toNat : Int) == 34) = true := by rw [h34]; rfl
                  have HR3 : Hid (R = match quoF r [] 1 with | some (s, n) => ([⟨115, s, line⟩], Lx.take ⟨c :: r, line, first⟩ n) | none => ([⟨33, openW, line⟩], ⟨c :: r, line, first⟩)) := Lib.hid (by
                    rw [HR.out]; unfold Lx.next; simp only [hsp, h10, h47, h42, hs4, HLf.out, h96, h34, if_true, if_false, Bool.false_eq_true]
                    cases quoF r [] 1 <;> rfl)
                  have hSb : S.size ≤ 1048576 := by rw [HS.out]; simp [mkS, ByteArray.size]; omega
                  have hqu := quoted_any x0 S hSb
                  unfold QuPost at hqu
                  rw [show toL S = c :: r from by rw [HS.out, toL_mkS]] at hqu
                  have Hqu := Lib.hid hqu
                  clear hqu hsp h10 h47 h42 hs4 h96 h34
                  go_wp2_with fail
                  refine Hqu.out.mono ?_
                  rintro e y ⟨rfl, hBy⟩
                  have HBy := Lib.hid hBy
                  have HLy : Hid (LexAt y b ⟨c :: r, line, first⟩) := Lib.hid ((hBy.block _ (lt_of_heap HL.out)).trans HL.out)
                  have HFy : Hid (Fr [b] x0 y) := Lib.hid (Fr.of_below hBy _)
                  have cl := Hcell.out y HFy.out
                  clear hBy Hqu
                  rw [show quoR (c :: r) = (match quoF r [] 1 with | some x => x | none => ([], 0)) from by unfold quoR; rw [show List.drop 1 (c :: r) = r from rfl]; cases quoF r [] 1 <;> rfl]
                  cases hq : quoF r [] 1 with
                  | none =>
                    have HR4 : Hid (R = ([⟨33, openW, line⟩], ⟨c :: r, line, first⟩)) := Lib.hid (by rw [HR3.out, hq])
                    clear hq HR3
                    simp only
                    go_wp2_with fail
                    refine (one_any y w.heap.size line 33 ⟨#[111, 112, 101, 110]⟩ cl).mono ?_
                    rintro e z ⟨A, rfl, hS3, hB3⟩
                    have HS3 := Lib.hid hS3
                    have HB3 := Lib.hid hB3
                    clear hS3 hB3
                    go_wp2_with fail
                    go_ret
                    exact lx_one HR4.out (HF0.out.trans HFy.out) HLy.out HS3.out HB3.out
                  | some q =>
                    obtain ⟨s, n⟩ := q
                    have hnl := quoF_len _ _ _ hq
                    have HR4 : Hid (R = ([⟨115, s, line⟩], Lx.take ⟨c :: r, line, first⟩ n)) := Lib.hid (by rw [HR3.out, hq])
                    have Htn := Lib.hid (take_any y b ⟨c :: r, line, first⟩ HLy.out (by simpa using hrl) hl n (by simp only [List.length_cons]; omega) (by omega))
                    have hn0 : (n : Int) > 0 := by omega
                    clear hq HR3 Htk
                    simp only
                    obtain ⟨T, hT⟩ : ∃ T, T = mkS s := ⟨_, rfl⟩
                    rw [← hT]
                    have HT := Lib.hid hT
                    clear hT
                    go_wp2_with fail
                    refine Htn.out.mono ?_
                    rintro e z ⟨rfl, hL2, hF2⟩
                    have HL2 := Lib.hid hL2
                    have HF2 : Hid (Fr [b] x0 z) := Lib.hid (HFy.out.trans ⟨hF2.os, hF2.tape, hF2.output, hF2.size, hF2.block⟩)
                    have cl2 := Hcell.out z HF2.out
                    clear hL2 hF2 Htn cl
                    go_wp2_with fail
                    refine (one_any z w.heap.size line 115 T cl2).mono ?_
                    rintro e z3 ⟨A, rfl, hS3, hB3⟩
                    rw [HT.out] at hS3
                    have HS3 := Lib.hid hS3
                    have HB3 := Lib.hid hB3
                    clear hS3 hB3
                    go_wp2_with fail
                    go_ret
                    exact lx_one HR4.out (HF0.out.trans HF2.out) HL2.out HS3.out HB3.out
                · have n34 : ((c.toNat : Int) == 34) = false := nb (d := 34) h34
                  have HR3 : Hid (R = ([⟨33, [], line⟩], ⟨c :: r, line, first⟩)) := Lib.hid (by
                    rw [HR.out]; unfold Lx.next; simp only [hsp, h10, h47, h42, hs4, HLf.out, h96, h34, if_true, if_false, Bool.false_eq_true])
                  have cl := Hcell.out x0 (Fr.refl _ _)
                  clear hsp h10 h47 h42 hs4 h96 h34 Htk
                  go_wp2_with fail
                  refine (one_any x0 w.heap.size line 33 ⟨#[]⟩ cl).mono ?_
                  rintro e z ⟨A, rfl, hS3, hB3⟩
                  have HS3 := Lib.hid hS3
                  have HB3 := Lib.hid hB3
                  clear hS3 hB3
                  go_wp2_with fail
                  go_ret
                  exact lx_one HR3.out HF0.out HL.out HS3.out HB3.out
end Go.Proofs.YtniphdhbgebedaaGreatDoor
