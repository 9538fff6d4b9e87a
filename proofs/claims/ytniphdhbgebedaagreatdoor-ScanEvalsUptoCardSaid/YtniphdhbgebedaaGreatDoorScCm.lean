/-
  The lexer's comments.
-/
import Derived.Test.YtniphdhbgebedaaGreatDoorScTm
import Derived.Test.YtniphdhbgebedaaGreatDoorScQu
namespace Go.Proofs.YtniphdhbgebedaaGreatDoor
open Go.RowKit Go.Maps

set_option linter.unusedSimpArgs false

attribute [local go_sem] lt1 lt2 lt3 lt4 lt5 lt6

theorem idx_lib (c : UInt8) : ∀ l : List UInt8, Lib.indexByte l c = match idx c l with
    | some n => (n : Int)
    | none => -1
  | [] => rfl
  | x :: r => by
    rw [Lib.indexByte, idx, idx_lib c r]
    by_cases h : x = c
    · rw [if_pos h, if_pos (by rw [h]; simp)]
      rfl
    · rw [if_neg h, if_neg (by simpa using h)]
      cases idx c r with
      | none => rfl
      | some n =>
        show (if ((n : Int) == -1) = true then (-1 : Int) else (n : Int) + 1) = ((n + 1 : Nat) : Int)
        rw [if_neg (by rw [beq_iff_eq]; omega)]
        omega
theorem idx_lt {c : UInt8} : ∀ {l : List UInt8} {n : Nat}, idx c l = some n → n < l.length
  | [], n, h => by simp [idx] at h
  | x :: r, n, h => by
    rw [idx] at h
    split at h
    · cases h; simp
    · cases hr : idx c r with
      | none => rw [hr] at h; simp at h
      | some m =>
        rw [hr] at h
        simp at h
        have := idx_lt hr
        rw [List.length_cons]
        omega
/-- tokens in memory -/
def tkV (t : Tok) : List Value := [.int .u8 (t.kind.toNat : Int), .string (mkS t.text), .int .i64 (t.line : Nat)]
def tksV : List Tok → List Value
  | [] => []
  | t :: r => tkV t ++ tksV r
theorem tksV_len : ∀ l : List Tok, (tksV l).length = l.length * 3
  | [] => rfl
  | t :: r => by rw [tksV, List.length_append, tksV_len r]; simp [tkV]; omega
theorem tksV_app : ∀ a b : List Tok, tksV (a ++ b) = tksV a ++ tksV b
  | [], b => rfl
  | t :: a, b => by rw [List.cons_append, tksV, tksV, tksV_app a b, List.append_assoc]
theorem tksV_one (l : List Tok) : ∀ u ∈ tksV l, u.oneCell' = true := by
  induction l with
  | nil => intro u hu; simp [tksV] at hu
  | cons t r ih =>
    intro u hu
    rw [tksV] at hu
    rcases List.mem_append.1 hu with h | h
    · simp only [tkV, List.mem_cons, List.not_mem_nil, or_false] at h
      rcases h with rfl | rfl | rfl <;> rfl
    · exact ih u h
/-- a slice whose cells lie at B or behind it -/
def SlF (B : Nat) (w : World) (A : Option Addr) (c n k : Nat) (xs : List Value) : Prop := Sl w A c n k xs ∧ ∀ a, A = some a → B ≤ a.block
/-- a slice of tokens is handed back, the lexer stands behind them -/
def LxPost (w : World) (b : Nat) (r : List Tok × Lx) (e : Ending) (w' : World) : Prop := ∃ A c, e = .returned (.slice A r.1.length c) ∧ SlF w.heap.size w' A c r.1.length 3 (tksV r.1) ∧ LexAt w' b r.2 ∧ Fr [b] w w'
theorem sl_new {w : World} {g : Nat} {t : TypeId} (l : List Tok) (h : w.heap[g]? = some (.cells (tksV l).toArray t (0, 0))) (hl : l.length ≤ maxLen) : Sl w (some ⟨g, 0, none⟩) l.length l.length 3 (tksV l) :=
  ⟨tksV_len l, by simp, Nat.le_refl _, hl, fun _ => ⟨g, 0, rfl, fun j hj => by rw [World.cell?, h]; simp⟩⟩
theorem slf_new {w : World} {B g : Nat} {t : TypeId} (l : List Tok) (h : w.heap[g]? = some (.cells (tksV l).toArray t (0, 0))) (hl : l.length ≤ maxLen) (hB : B ≤ g) : SlF B w (some ⟨g, 0, none⟩) l.length l.length 3 (tksV l) := ⟨sl_new l h hl, fun a ha => by cases ha; exact hB⟩
theorem sl_none (w : World) : Sl w none 0 0 3 (tksV []) := ⟨rfl, by simp, by simp, by unfold maxLen; omega, fun h => by omega⟩
theorem slf_none (B : Nat) (w : World) : SlF B w none 0 0 3 (tksV []) := ⟨sl_none w, fun a h => by cases h⟩
theorem inC_sp : inC ⟨#[32, 9, 13]⟩ = spB := by
  funext x
  unfold inC spB
  rw [show toL ⟨#[32, 9, 13]⟩ = [32, 9, 13] from rfl]
  rw [Bool.eq_iff_iff]
  simp [or_assoc]
def commentR (l : Lx) : List Tok × Lx :=
  let n := (idx 10 l.rest).getD l.rest.length
  let s := l.rest.take n
  (if buildW.isPrefixOf s = true ∧ l.first = true then [⟨99, trimB spB (s.drop 11), l.line⟩] else [], l.take n)
set_option maxRecDepth 100000 in
set_option maxHeartbeats 8000000 in
theorem comment_any (w : World) (b : Nat) (l : Lx) (h : LexAt w b l) (hr : l.rest.length ≤ 1048576) (hl : l.line ≤ 1048577) (hpos : 1 ≤ (idx 10 l.rest).getD l.rest.length) :
    Calls Tryz.prog 89 #[.pointer (some ⟨b, 0, none⟩)] w (LxPost w b (commentR l)) := by
  obtain ⟨n, hn⟩ : ∃ n, n = (idx 10 l.rest).getD l.rest.length := ⟨_, rfl⟩
  have hnl : n ≤ l.rest.length := by
    rw [hn]
    cases hi : idx 10 l.rest with
    | none => exact Nat.le_refl _
    | some m => exact Nat.le_of_lt (idx_lt hi)
  have hres : commentR l = (if buildW.isPrefixOf (l.rest.take n) = true ∧ l.first = true then [⟨99, trimB spB ((l.rest.take n).drop 11), l.line⟩] else [], l.take n) := by rw [hn]; rfl
  have Hres := Lib.hid hres
  have hix := Tryz.strings_IndexByte (mkS l.rest) 10 w.drew
  rw [show (10 : Int).toNat.toUInt8 = 10 from rfl, show (mkS l.rest).data.toList = l.rest from toL_mkS l.rest, idx_lib] at hix
  have hn1 : 1 ≤ n := by rw [hn]; exact hpos
  have hk : w.drew.heap[b]? = some (.cells (lexV l) 94 (0, 0)) := h
  have hL : LexAt w.drew b l := h
  have htk := Lib.hid (take_any w.drew b l hL hr hl n hnl hn1)
  clear hres hpos
  obtain ⟨rest, line, first⟩ := l
  unfold lexV at hk
  simp only at hk hn hix hr hl hnl
  obtain ⟨S, hS⟩ : ∃ S, S = mkS rest := ⟨_, rfl⟩
  have hSz : S.size = rest.length := by rw [hS]; simp [mkS, ByteArray.size]
  rw [← hS] at hk hix
  have HS := Lib.hid hS
  have HSz := Lib.hid hSz
  have Hix := Lib.hid hix
  have Hk := Lib.hid hk
  have k0 : w.cell? ⟨b, 0, none⟩ = some (.string S) := (blk_cells hk).1 0
  have d1 : w.drew.cell? ⟨b, 1, none⟩ = some (.int .i64 (line : Nat)) := (blk_cells hk).1 1
  have d2 : w.drew.cell? ⟨b, 2, none⟩ = some (.bool first) := (blk_cells hk).1 2
  have d0 : w.drew.cell? ⟨b, 0, none⟩ = some (.string S) := (blk_cells hk).1 0
  clear hS hSz hix hk hL h
  go_enter Tryz.func89, Tryz.ntmps89
  go_wp2_with fail
  with_reducible refine g_mixx [(0, 1), (1, 1), (2, 1), (3, 0), (4, 1), (5, 1), (6, 1), (7, 0), (8, 1), (9, 1)] (fun w' => w'.cell? ⟨b, 1, none⟩ = some (.int .i64 (line : Nat)) ∧ w'.cell? ⟨b, 2, none⟩ = some (.bool first)) 0 _ rfl (by kernel_rfl) (by kernel_rfl) ?_ ?_
  · exact ⟨d1, d2⟩
  intro OPS HD
  simp only [mixX, nthO, consX]
  iterate 3 ((with_reducible refine x_any (v := ?_) ?_ ?_); rotate_left; (rintro _; go_simp; first | done | rfl | (constructor <;> rfl)))
  iterate 1 ((with_reducible refine x_val (v := ?_) ?_ ?_ ?_); rotate_left; (rintro _ ⟨h1, h2⟩; go_simp; first | done | rfl | (constructor <;> rfl)); exact ⟨d1, d2⟩)
  iterate 3 ((with_reducible refine x_any (v := ?_) ?_ ?_); rotate_left; (rintro _; go_simp; first | done | rfl | (constructor <;> rfl)))
  iterate 1 ((with_reducible refine x_val (v := ?_) ?_ ?_ ?_); rotate_left; (rintro _ ⟨h1, h2⟩; go_simp; first | done | rfl | (constructor <;> rfl)); exact ⟨d1, d2⟩)
  iterate 2 ((with_reducible refine x_any (v := ?_) ?_ ?_); rotate_left; (rintro _; go_simp; first | done | rfl | (constructor <;> rfl)))
  with_reducible refine x_end ?_
  simp only [Act.put, List.setIfInBounds_toArray, List.set_cons_zero, List.set_cons_succ]
  clear HD
  go_wp2_with fail
  refine Hix.out.mono ?_
  rintro e y ⟨rfl, rfl⟩
  clear Hix
  cases hi : idx 10 rest with
  | none =>
    have hnn : n = rest.length := by rw [hn, hi]; rfl
    have hSn : S.size = n := by rw [HSz.out, hnn]
    clear hi hn hnn
    simp only
    go_wp2_with fail
    refine htk.out.mono ?_
    rintro e x2 ⟨rfl, hL2, hF2⟩
    simp only at hL2 ⊢
    have HL2 := Lib.hid hL2
    have HF2 : Hid (Fr [b] w x2) := Lib.hid ⟨hF2.os, hF2.tape, hF2.output, hF2.size, hF2.block⟩
    have hcp := Tryz.strings_CutPrefix (mkS (rest.take n)) ⟨#[47, 47, 103, 111, 58, 98, 117, 105, 108, 100, 32]⟩ x2
    rw [show (mkS (rest.take n)).data.toList = rest.take n from rfl, show (⟨#[47, 47, 103, 111, 58, 98, 117, 105, 108, 100, 32]⟩ : ByteArray).data.toList = buildW from rfl] at hcp
    obtain ⟨P, hP⟩ : ∃ P, P = rest.take n := ⟨_, rfl⟩
    have hPl : P.length ≤ 1048576 := by rw [hP, List.length_take]; omega
    rw [← hP] at hcp ⊢
    rw [← hP] at Hres
    have Hcp := Lib.hid hcp
    clear hcp hL2 hF2 htk hP
    go_wp2_with fail
    refine Hcp.out.mono ?_
    rintro e y ⟨rfl, rfl⟩
    clear Hcp
    unfold Lib.trimPrefix Lib.hasPrefix
    rcases Bool.eq_false_or_eq_true (buildW.isPrefixOf P) with hpre | hpre
    · rw [hpre]
      simp only [if_true]
      rcases Bool.eq_false_or_eq_true first with hfi | hfi
      · subst hfi
        have Hr2 : Hid (commentR ⟨rest, line, true⟩ = ([⟨99, trimB spB (P.drop 11), line⟩], Lx.take ⟨rest, line, true⟩ n)) := Lib.hid (by rw [Hres.out, if_pos ⟨hpre, rfl⟩])
        have htr := trim_set y (mkS (P.drop buildW.length)) (by simp only [mkS, ByteArray.size, List.size_toArray, List.length_drop]; omega) ⟨#[32, 9, 13]⟩ (by decide) (by decide) (by
          intro j c hc
          have : c = 32 ∨ c = 9 ∨ c = 13 := by
            have hm := List.mem_of_getElem? hc
            simpa using hm
          rcases this with rfl | rfl | rfl <;> decide)
        rw [inC_sp, toL_mkS, show buildW.length = 11 from rfl] at htr
        have Htr := Lib.hid htr
        clear htr hpre Hres
        go_wp2_with fail
        refine Htr.out.mono ?_
        rintro e x3 ⟨rfl, hB3⟩
        have HB3 := Lib.hid hB3
        clear Htr hB3
        obtain ⟨Tx, hTx⟩ : ∃ Tx, Tx = trimB spB (P.drop 11) := ⟨_, rfl⟩
        have HTx := Lib.hid hTx
        rw [show (((P.drop 11).reverse.dropWhile spB).reverse).dropWhile spB = Tx from hTx.symm]
        clear hTx
        go_wp2_with fail
        go_ret
        rw [Hr2.out]
        have hnew : (x3.alloc (.cells #[.int .u8 99, .string (mkS Tx), .int .i64 (line : Nat)] 70)).heap[x3.heap.size]? = some (.cells (tksV [⟨99, Tx, line⟩]).toArray 70 (0, 0)) := heap_alloc_new _ _
        have hBn := HB3.out.alloc HB3.out.size (.cells #[.int .u8 99, .string (mkS Tx), .int .i64 (line : Nat)] 70)
        refine ⟨some ⟨x3.heap.size, 0, none⟩, 1, rfl, ?_, (hBn.block _ (lt_of_heap HL2.out)).trans HL2.out, HF2.out.trans (Fr.of_below hBn _)⟩
        rw [← HTx.out]
        exact slf_new [⟨99, Tx, line⟩] hnew (by simp [maxLen]) (Nat.le_trans HF2.out.size HB3.out.size)
      · subst hfi
        have Hr2 : Hid (commentR ⟨rest, line, false⟩ = ([], Lx.take ⟨rest, line, false⟩ n)) := Lib.hid (by rw [Hres.out, if_neg (by simp)])
        clear hpre Hres
        go_wp2_with fail
        go_ret
        rw [Hr2.out]
        exact ⟨none, 0, rfl, slf_none _ _, HL2.out, HF2.out⟩
    · rw [hpre]
      have Hr2 : Hid (commentR ⟨rest, line, first⟩ = ([], Lx.take ⟨rest, line, first⟩ n)) := Lib.hid (by rw [Hres.out, if_neg (by rw [hpre]; simp)])
      clear hpre Hres
      go_wp2_with fail
      go_ret
      rw [Hr2.out]
      exact ⟨none, 0, rfl, slf_none _ _, HL2.out, HF2.out⟩
  | some m =>
    have hnn : n = m := by rw [hn, hi]; rfl
    subst hnn
    clear hi hn
    simp only
    have hm0 : ¬ (n : Int) < 0 := by omega
    go_wp2_with fail
    refine htk.out.mono ?_
    rintro e x2 ⟨rfl, hL2, hF2⟩
    simp only at hL2 ⊢
    have HL2 := Lib.hid hL2
    have HF2 : Hid (Fr [b] w x2) := Lib.hid ⟨hF2.os, hF2.tape, hF2.output, hF2.size, hF2.block⟩
    have hcp := Tryz.strings_CutPrefix (mkS (rest.take n)) ⟨#[47, 47, 103, 111, 58, 98, 117, 105, 108, 100, 32]⟩ x2
    rw [show (mkS (rest.take n)).data.toList = rest.take n from rfl, show (⟨#[47, 47, 103, 111, 58, 98, 117, 105, 108, 100, 32]⟩ : ByteArray).data.toList = buildW from rfl] at hcp
    obtain ⟨P, hP⟩ : ∃ P, P = rest.take n := ⟨_, rfl⟩
    have hPl : P.length ≤ 1048576 := by rw [hP, List.length_take]; omega
    rw [← hP] at hcp ⊢
    rw [← hP] at Hres
    have Hcp := Lib.hid hcp
    clear hcp hL2 hF2 htk hP
    go_wp2_with fail
    refine Hcp.out.mono ?_
    rintro e y ⟨rfl, rfl⟩
    clear Hcp
    unfold Lib.trimPrefix Lib.hasPrefix
    rcases Bool.eq_false_or_eq_true (buildW.isPrefixOf P) with hpre | hpre
    · rw [hpre]
      simp only [if_true]
      rcases Bool.eq_false_or_eq_true first with hfi | hfi
      · subst hfi
        have Hr2 : Hid (commentR ⟨rest, line, true⟩ = ([⟨99, trimB spB (P.drop 11), line⟩], Lx.take ⟨rest, line, true⟩ n)) := Lib.hid (by rw [Hres.out, if_pos ⟨hpre, rfl⟩])
        have htr := trim_set y (mkS (P.drop buildW.length)) (by simp only [mkS, ByteArray.size, List.size_toArray, List.length_drop]; omega) ⟨#[32, 9, 13]⟩ (by decide) (by decide) (by
          intro j c hc
          have : c = 32 ∨ c = 9 ∨ c = 13 := by
            have hm := List.mem_of_getElem? hc
            simpa using hm
          rcases this with rfl | rfl | rfl <;> decide)
        rw [inC_sp, toL_mkS, show buildW.length = 11 from rfl] at htr
        have Htr := Lib.hid htr
        clear htr hpre Hres
        go_wp2_with fail
        refine Htr.out.mono ?_
        rintro e x3 ⟨rfl, hB3⟩
        have HB3 := Lib.hid hB3
        clear Htr hB3
        obtain ⟨Tx, hTx⟩ : ∃ Tx, Tx = trimB spB (P.drop 11) := ⟨_, rfl⟩
        have HTx := Lib.hid hTx
        rw [show (((P.drop 11).reverse.dropWhile spB).reverse).dropWhile spB = Tx from hTx.symm]
        clear hTx
        go_wp2_with fail
        go_ret
        rw [Hr2.out]
        have hnew : (x3.alloc (.cells #[.int .u8 99, .string (mkS Tx), .int .i64 (line : Nat)] 70)).heap[x3.heap.size]? = some (.cells (tksV [⟨99, Tx, line⟩]).toArray 70 (0, 0)) := heap_alloc_new _ _
        have hBn := HB3.out.alloc HB3.out.size (.cells #[.int .u8 99, .string (mkS Tx), .int .i64 (line : Nat)] 70)
        refine ⟨some ⟨x3.heap.size, 0, none⟩, 1, rfl, ?_, (hBn.block _ (lt_of_heap HL2.out)).trans HL2.out, HF2.out.trans (Fr.of_below hBn _)⟩
        rw [← HTx.out]
        exact slf_new [⟨99, Tx, line⟩] hnew (by simp [maxLen]) (Nat.le_trans HF2.out.size HB3.out.size)
      · subst hfi
        have Hr2 : Hid (commentR ⟨rest, line, false⟩ = ([], Lx.take ⟨rest, line, false⟩ n)) := Lib.hid (by rw [Hres.out, if_neg (by simp)])
        clear hpre Hres
        go_wp2_with fail
        go_ret
        rw [Hr2.out]
        exact ⟨none, 0, rfl, slf_none _ _, HL2.out, HF2.out⟩
    · rw [hpre]
      have Hr2 : Hid (commentR ⟨rest, line, first⟩ = ([], Lx.take ⟨rest, line, first⟩ n)) := Lib.hid (by rw [Hres.out, if_neg (by rw [hpre]; simp)])
      clear hpre Hres
      go_wp2_with fail
      go_ret
      rw [Hr2.out]
      exact ⟨none, 0, rfl, slf_none _ _, HL2.out, HF2.out⟩
end Go.Proofs.YtniphdhbgebedaaGreatDoor
