/-
  The lexer takes some bytes away.
-/
import Derived.Test.YtniphdhbgebedaaGreatDoorScLt
import Derived.Test.YtniphdhbgebedaaGreatDoorTxAbs
import Derived.Test.YtniphdhbgebedaaGreatDoorShelf
namespace Go.Proofs.YtniphdhbgebedaaGreatDoor
open Go.RowKit Go.Maps

set_option linter.unusedSimpArgs false

attribute [local go_sem] lt1 lt2 lt3 lt4 lt5 lt6

/-- a lexer in memory -/
def lexV (l : Lx) : Array Value := #[.string (mkS l.rest), .int .i64 (l.line : Nat), .bool l.first]
def LexAt (w : World) (b : Nat) (l : Lx) : Prop := w.heap[b]? = some (.cells (lexV l) 94 (0, 0))
theorem countByte_nls (s : List UInt8) : Lib.countByte s 10 = (nls s : Nat) := by
  unfold nls Lib.countByte
  simp [List.count, List.countP]
theorem take_bytes (l : List UInt8) (n : Nat) : (mkS l).extract 0 n = mkS (l.take n) := by
  apply toL_inj
  rw [toL_extract, toL_mkS, toL_mkS]
  simp
theorem drop_bytes (l : List UInt8) (n : Nat) : (mkS l).extract n (mkS l).size = mkS (l.drop n) := by
  apply toL_inj
  rw [toL_extract, toL_mkS, toL_mkS]
  have h : (mkS l).size = l.length := by simp [mkS, ByteArray.size]
  rw [h, List.take_of_length_le (by simp)]
def TkPost (w : World) (b : Nat) (l : Lx) (n : Nat) (e : Ending) (w' : World) : Prop := e = .returned (.string (mkS (l.rest.take n))) ∧ LexAt w' b (l.take n) ∧ Fr [b] w w'
set_option maxRecDepth 100000 in
set_option maxHeartbeats 8000000 in
theorem take_any (w : World) (b : Nat) (l : Lx) (h : LexAt w b l) (hr : l.rest.length ≤ 1048576) (hl : l.line ≤ 1048577) (n : Nat) (hn : n ≤ l.rest.length) (hn1 : 1 ≤ n) :
    Calls Tryz.prog 88 #[.pointer (some ⟨b, 0, none⟩), .int .i64 (n : Nat)] w (TkPost w b l n) := by
  obtain ⟨rest, line, first⟩ := l
  simp only at hr hl hn
  obtain ⟨S, hS⟩ : ∃ S, S = mkS rest := ⟨_, rfl⟩
  have hSz : S.size = rest.length := by rw [hS]; simp [mkS, ByteArray.size]
  have H : Hid (w.heap[b]? = some (.cells #[.string S, .int .i64 (line : Nat), .bool first] 94 (0, 0))) := Lib.hid (by rw [hS]; exact h)
  have k := (blk_cells H.out).1
  have kf := (blk_cells H.out).2.1
  have hbl := lt_of_heap H.out
  have hnS : n ≤ S.size := by omega
  have HS := Lib.hid hS
  have HSz := Lib.hid hSz
  have hSb : S.size ≤ 1048576 := by omega
  clear h hS hSz hr hn
  go_enter Tryz.func88, Tryz.ntmps88
  go_wp2_with fail
  obtain ⟨P, hP⟩ : ∃ P, P = S.extract 0 n := ⟨_, rfl⟩
  obtain ⟨R, hR⟩ : ∃ R, R = S.extract n S.size := ⟨_, rfl⟩
  have hPz : P.size = n := by rw [hP, ByteArray.size_extract]; omega
  have hPl : toL P = rest.take n := by rw [hP, HS.out, take_bytes, toL_mkS]
  have hRl : R = mkS (rest.drop n) := by rw [hR, HS.out, drop_bytes]
  rw [← hP, ← hR]
  have hAr : (w.setCell ⟨b, 0, none⟩ (.string R)).heap[b]? = some (.cells #[.string R, .int .i64 (line : Nat), .bool first] 94 (0, 0)) := by rw [heap_setCell_at H.out]; rfl
  have hAf := Fr.setCell [b] w ⟨b, 0, none⟩ (.string R) (by simp)
  generalize (w.setCell ⟨b, 0, none⟩ (.string R)) = x1 at *
  obtain ⟨m, hm⟩ : ∃ m : Nat, m = nls (rest.take n) := ⟨_, rfl⟩
  have hmz : m ≤ 1048576 := by
    have h := List.countP_le_length (p := fun c : UInt8 => c == 10) (l := rest.take n)
    rw [List.length_take] at h
    have h2 := HSz.out
    rw [hm]
    unfold nls
    omega
  have Hpl := Lib.hid hPl
  have Hrl := Lib.hid hRl
  have Hm := Lib.hid hm
  have hcnt := Tryz.strings_Count_one P 10 x1.drew
  rw [show P.data.toList = toL P from rfl, countByte_nls, hPl, ← hm] at hcnt
  have Hcnt := Lib.hid hcnt
  have hdr : x1.drew.heap[b]? = some (.cells #[.string R, .int .i64 (line : Nat), .bool first] 94 (0, 0)) := hAr
  have d1 : x1.drew.cell? ⟨b, 1, none⟩ = some (.int .i64 (line : Nat)) := (blk_cells hdr).1 1
  have Hdr := Lib.hid hdr
  have Hfr := Lib.hid (hAf.drewN 1)
  have hnB : n ≤ 1048576 := by omega
  clear hP hR hPl hRl hAr hAf hm hcnt hdr H hnS hSb
  with_reducible refine g_mixx [(0, 1), (1, 1), (2, 1), (3, 0), (4, 1), (5, 2), (6, 1), (7, 1), (8, 1), (9, 3)] (fun w' => w'.cell? ⟨b, 1, none⟩ = some (.int .i64 (line : Nat))) 0 _ rfl (by kernel_rfl) (by kernel_rfl) ?_ ?_
  · exact d1
  intro OPS HD
  simp only [mixX, nthO, consX]
  iterate 3 ((with_reducible refine x_any (v := ?_) ?_ ?_); rotate_left; (rintro _; go_simp; first | done | rfl | (constructor <;> rfl)))
  iterate 1 ((with_reducible refine x_val (v := ?_) ?_ ?_ ?_); rotate_left; (rintro _ h; go_simp; first | done | rfl | (constructor <;> rfl)); exact d1)
  iterate 1 ((with_reducible refine x_any (v := ?_) ?_ ?_); rotate_left; (rintro _; go_simp; first | done | rfl | (constructor <;> rfl)))
  with_reducible refine x_one ?_
  refine l_call ?_ (Hcnt.out.mono ?_)
  · go_simp
  rintro e y ⟨rfl, rfl⟩
  refine ⟨_, rfl, ?_⟩
  refine x_keep d1 ?_
  have hwr : IntKind.i64.wrap ((line : Int) + m) = (line : Int) + m := by rw [IntKind.wrap_i64]; omega
  iterate 3 ((with_reducible refine x_any (v := ?_) ?_ ?_); rotate_left; (rintro _; go_simp; first | done | rfl | (constructor <;> rfl)))
  have f1 : x1.drew.frozen? ⟨b, 1, none⟩ = false := (blk_cells Hdr.out).2.1 1
  with_reducible refine x_three ?_
  with_reducible refine l_skip (w' := x1.drew.setCell ⟨b, 1, none⟩ (.int .i64 ((line : Int) + m))) ?_ ?_
  · go_simp
  with_reducible refine x_last ?_
  with_reducible refine x_end ?_
  simp only [Act.put, List.setIfInBounds_toArray, List.set_cons_zero, List.set_cons_succ]
  have hBr : (x1.drew.setCell ⟨b, 1, none⟩ (.int .i64 ((line : Int) + m))).heap[b]? = some (.cells #[.string R, .int .i64 ((line : Int) + m), .bool first] 94 (0, 0)) := by rw [heap_setCell_at Hdr.out]; rfl
  have hBf := Hfr.out.trans (Fr.setCell [b] x1.drew ⟨b, 1, none⟩ (.int .i64 ((line : Int) + m)) (by simp))
  clear f1 d1 Hcnt Hdr Hfr HD
  generalize (x1.drew.setCell ⟨b, 1, none⟩ (.int .i64 ((line : Int) + m))) = x2 at *
  have Hbf := Lib.hid hBf
  have Hbr := Lib.hid hBr
  have k2 := (blk_cells hBr).1
  have k2f := (blk_cells hBr).2.1
  have hbl2 := lt_of_heap hBr
  clear hBf hBr k kf hbl
  have hn0 : (0 : Int) ≤ (n : Int) - 1 := by omega
  have hn2 : (n : Int) - 1 < P.size := by omega
  have hnw : IntKind.i64.wrap ((n : Int) - 1) = (n : Int) - 1 := by rw [IntKind.wrap_i64]; omega
  go_wp2_with fail
  go_ret
  have hPm : P = mkS (rest.take n) := by rw [← Hpl.out, mkS_toL]
  have hPn : n - 1 < P.size := by omega
  have hlast : ((P[n - 1].toNat : Int) == 10) = ((rest.take n).getLast? == some 10) := by
    have hne : rest.take n ≠ [] := by
      rw [← Hpl.out]
      intro h
      have := congrArg List.length h
      rw [toL_len, hPz, List.length_nil] at this
      omega
    have h1 : (rest.take n).getLast? = some P[n - 1] := by
      rw [← Hpl.out, List.getLast?_eq_getElem?, toL_len, hPz, List.getElem?_eq_getElem (by rw [toL_len]; omega)]
      rfl
    rw [h1, Bool.eq_iff_iff, beq_iff_eq, beq_iff_eq]
    constructor
    · intro h
      have h2 : P[n - 1].toNat = 10 := by omega
      rw [show P[n - 1] = 10 from UInt8.toNat_inj.1 h2]
    · intro h
      rw [Option.some.inj h]
      rfl
  refine ⟨congrArg (fun z => Ending.returned (.string z)) hPm, ?_, Hbf.out.trans (Fr.setCell [b] x2 ⟨b, 2, none⟩ _ (by simp))⟩
  unfold LexAt lexV Lx.take
  rw [heap_setCell_at Hbr.out, hlast, Hrl.out, Hm.out]
  simp
end Go.Proofs.YtniphdhbgebedaaGreatDoor
