/-
  The lexer's comments of more lines.
-/
import Derived.Test.YtniphdhbgebedaaGreatDoorScCm
namespace Go.Proofs.YtniphdhbgebedaaGreatDoor
open Go.RowKit Go.Maps

set_option linter.unusedSimpArgs false

attribute [local go_sem] lt1 lt2 lt3 lt4 lt5 lt6

theorem idx2_lib (a b : UInt8) : ∀ l : List UInt8, Lib.index l [a, b] = match idx2 a b l with
    | some n => (n : Int)
    | none => -1
  | [] => rfl
  | [x] => by
    rw [Lib.index]
    rw [if_neg (by simp [List.isPrefixOf])]
    rfl
  | x :: y :: r => by
    rw [Lib.index, idx2, idx2_lib a b (y :: r)]
    by_cases h : x = a ∧ y = b
    · rw [if_pos h, if_pos (by rw [h.1, h.2]; simp [List.isPrefixOf])]
      rfl
    · rw [if_neg h, if_neg (by simp only [List.isPrefixOf, Bool.and_true, Bool.and_eq_true, beq_iff_eq]; intro hh; exact h ⟨hh.1.symm, hh.2.symm⟩)]
      cases idx2 a b (y :: r) with
      | none => rfl
      | some n =>
        show (if ((n : Int) == -1) = true then (-1 : Int) else (n : Int) + 1) = ((n + 1 : Nat) : Int)
        rw [if_neg (by rw [beq_iff_eq]; omega)]
        omega
theorem idx2_lt {a b : UInt8} : ∀ {l : List UInt8} {n : Nat}, idx2 a b l = some n → n + 2 ≤ l.length
  | [], n, h => by simp [idx2] at h
  | [x], n, h => by simp [idx2] at h
  | x :: y :: r, n, h => by
    rw [idx2] at h
    split at h
    · cases h; simp
    · cases hr : idx2 a b (y :: r) with
      | none => rw [hr] at h; simp at h
      | some m =>
        rw [hr] at h
        simp at h
        have := idx2_lt hr
        rw [List.length_cons]
        omega
theorem row_slk {w : World} {base n k : Nat} {t : TypeId} {v : Value} {xs : List Value} (h : w.ownsRow base t k v n xs) : ∃ A cap, v = .slice A n cap ∧ Sl w A cap n k xs := by
  obtain ⟨h1, ⟨rfl, h2⟩ | ⟨g, cap, cur, rfl, _, hg, hn, hc, hs, hx⟩⟩ := h
  · subst h2
    exact ⟨none, 0, rfl, h1, by simp, by simp, by simp, by simp⟩
  · refine ⟨_, cap, rfl, h1, by simp, hn, hc, fun _ => ⟨g, 0, rfl, fun j hj => ?_⟩⟩
    rw [← hx, List.getElem?_take_of_lt hj]
    simp [World.cell?, hg]
theorem infoTok : (Tryz.prog.info? 70).map (fun i => (i.zero, i.size, i.bytes)) = some (some (.agg #[.int .u8 0, .string ByteArray.empty, .int .i64 0]), 3, 32) := by kernel_rfl
/-- the laid variable that strings.Index reads -/
def Glob (w : World) : Prop := ∃ m : Int, w.cell? ⟨0, 0, none⟩ = some (.int .i64 m)
theorem Glob.fr {w w' : World} {S : List Nat} (h : Glob w) (hf : Fr S w w') (h0 : 0 ∉ S) : Glob w' := by
  obtain ⟨m, hm⟩ := h
  refine ⟨m, ?_⟩
  have hb := World.block_lt_of_cell? w _ hm
  exact (World.cell?_of_block (hf.block 0 hb h0)).trans hm
theorem Glob.below {w w' : World} (h : Glob w) {B : Nat} (hf : Below B w w') (h0 : 0 < B) : Glob w' := by
  obtain ⟨m, hm⟩ := h
  exact ⟨m, (World.cell?_of_block (hf.block 0 h0)).trans hm⟩
theorem Glob.pos {w : World} (h : Glob w) : 0 < w.heap.size := by
  obtain ⟨m, hm⟩ := h
  exact World.block_lt_of_cell? w _ hm
def nlT (line : Nat) (n : Nat) : List Tok := (List.range n).map fun i => ⟨59, [], line + i⟩
theorem nlT_len (line n : Nat) : (nlT line n).length = n := by simp [nlT]
theorem nlT_succ (line n : Nat) : nlT line (n + 1) = nlT line n ++ [⟨59, [], line + n⟩] := by unfold nlT; rw [List.range_succ, List.map_append]; rfl
def blockR (l : Lx) : List Tok × Lx :=
  match idx2 42 47 (l.rest.drop 2) with
  | none => ([⟨33, openW, l.line⟩], l)
  | some n => (nlT l.line (nls (l.rest.take (n + 4))), l.take (n + 4))
def BkRel (w : World) (line N : Nat) (ov iv : Value) (wr : World) : Prop := ∃ k : Nat, k ≤ N ∧ iv = .int .i64 (k : Nat) ∧ wr.ownsRow w.heap.size 70 3 ov k (tksV (nlT line k)) ∧ Below w.heap.size w wr
set_option maxRecDepth 100000 in
set_option maxHeartbeats 8000000 in
theorem block_any (w : World) (b : Nat) (l : Lx) (h : LexAt w b l) (hg : Glob w) (hr : l.rest.length ≤ 1048576) (hl : l.line ≤ 1048577) (h2 : 2 ≤ l.rest.length) :
    Calls Tryz.prog 90 #[.pointer (some ⟨b, 0, none⟩)] w (LxPost w b (blockR l)) := by
  have Hres : Hid (blockR l = match idx2 42 47 (l.rest.drop 2) with | none => ([⟨33, openW, l.line⟩], l) | some n => (nlT l.line (nls (l.rest.take (n + 4))), l.take (n + 4))) := Lib.hid rfl
  obtain ⟨gm, hgm⟩ := hg
  have hix := Tryz.strings_Index (mkS (l.rest.drop 2)) ⟨#[42, 47]⟩ gm w (by simp [mkS, ByteArray.size]; omega) hgm
  rw [show (⟨#[42, 47]⟩ : ByteArray).data.toList = [42, 47] from rfl, show (mkS (l.rest.drop 2)).data.toList = l.rest.drop 2 from toL_mkS _, idx2_lib] at hix
  have Htk : Hid (∀ n, n ≤ l.rest.length → 1 ≤ n → ∀ y : World, LexAt y b l → Calls Tryz.prog 88 #[.pointer (some ⟨b, 0, none⟩), .int .i64 (n : Nat)] y (TkPost y b l n)) := Lib.hid (fun n hn hn1 y hy => take_any y b l hy hr hl n hn hn1)
  have HL := Lib.hid h
  have hk : w.heap[b]? = some (.cells (lexV l) 94 (0, 0)) := h
  obtain ⟨rest, line, first⟩ := l
  unfold lexV at hk
  simp only at hk hix hr hl h2 Hres Htk
  have hdr := (drop_bytes rest 2)
  obtain ⟨S, hS⟩ : ∃ S, S = mkS rest := ⟨_, rfl⟩
  have hSz : S.size = rest.length := by rw [hS]; simp [mkS, ByteArray.size]
  rw [← hS] at hk hdr
  have HS := Lib.hid hS
  have HSz := Lib.hid hSz
  have Hix := Lib.hid hix
  have Hk := Lib.hid hk
  have Hdr := Lib.hid hdr
  have k0 : w.cell? ⟨b, 0, none⟩ = some (.string S) := (blk_cells hk).1 0
  have k1 : w.cell? ⟨b, 1, none⟩ = some (.int .i64 (line : Nat)) := (blk_cells hk).1 1
  have hS2 : 2 ≤ S.size := by omega
  have hSb : S.size ≤ 1048576 := by omega
  clear hS hSz hix hk hdr h hgm
  go_enter Tryz.func90, Tryz.ntmps90
  go_wp2_with fail
  rw [Hdr.out]
  refine Hix.out.mono ?_
  rintro e y ⟨rfl, rfl⟩
  clear Hix
  cases hi : idx2 42 47 (rest.drop 2) with
  | none =>
    have Hr2 : Hid (blockR ⟨rest, line, first⟩ = ([⟨33, openW, line⟩], ⟨rest, line, first⟩)) := Lib.hid (by rw [Hres.out, hi])
    clear hi Hres
    simp only
    go_wp2_with fail
    go_ret
    rw [Hr2.out]
    have hnew : (y.alloc (.cells #[.int .u8 33, .string (mkS openW), .int .i64 (line : Nat)] 70)).heap[y.heap.size]? = some (.cells (tksV [⟨33, openW, line⟩]).toArray 70 (0, 0)) := heap_alloc_new _ _
    have hBn := (Below.refl y.heap.size y).alloc (Nat.le_refl _) (.cells #[.int .u8 33, .string (mkS openW), .int .i64 (line : Nat)] 70)
    refine ⟨some ⟨y.heap.size, 0, none⟩, 1, rfl, ?_, (hBn.block _ (lt_of_heap HL.out)).trans HL.out, Fr.of_below hBn _⟩
    exact slf_new [⟨33, openW, line⟩] hnew (by simp [maxLen]) (Nat.le_refl _)
  | some m =>
    have hm2 := idx2_lt hi
    rw [List.length_drop] at hm2
    have hm4 : m + 4 ≤ rest.length := by omega
    have Hr2 : Hid (blockR ⟨rest, line, first⟩ = (nlT line (nls (rest.take (m + 4))), Lx.take ⟨rest, line, first⟩ (m + 4))) := Lib.hid (by rw [Hres.out, hi])
    have hmb : m ≤ 1048576 := by omega
    have hm0 : ¬ (m : Int) < 0 := by omega
    have htk := Htk.out (m + 4) hm4 (by omega) y HL.out
    rw [show ((m + 4 : Nat) : Int) = (m : Int) + 4 by omega] at htk
    have Htk2 := Lib.hid htk
    have hmw : IntKind.i64.wrap ((m : Int) + 4) = (m : Int) + 4 := by rw [IntKind.wrap_i64]; omega
    clear hi Hres Htk htk hm2
    simp only
    go_wp2_with fail
    refine Htk2.out.mono ?_
    rintro e x2 ⟨rfl, hL2, hF2⟩
    simp only at hL2 ⊢
    have HL2 := Lib.hid hL2
    have HF2 : Hid (Fr [b] y x2) := Lib.hid ⟨hF2.os, hF2.tape, hF2.output, hF2.size, hF2.block⟩
    obtain ⟨N, hN⟩ : ∃ N, N = nls (rest.take (m + 4)) := ⟨_, rfl⟩
    have hNz : N ≤ 1048576 := by
      have h := List.countP_le_length (p := fun c : UInt8 => c == 10) (l := rest.take (m + 4))
      rw [List.length_take] at h
      rw [hN]
      unfold nls
      omega
    have hcnt := Tryz.strings_Count_one (mkS (rest.take (m + 4))) 10 x2
    rw [show (mkS (rest.take (m + 4))).data.toList = rest.take (m + 4) from rfl, countByte_nls, ← hN] at hcnt
    have Hcnt := Lib.hid hcnt
    rw [← hN] at Hr2
    obtain ⟨P, hP⟩ : ∃ P, P = mkS (rest.take (m + 4)) := ⟨_, rfl⟩
    rw [← hP] at Hcnt ⊢
    clear hL2 hF2 hcnt hN hP Htk2
    go_wp2_with fail
    refine Hcnt.out.mono ?_
    rintro e x3 ⟨rfl, rfl⟩
    clear Hcnt
    obtain ⟨iT, hiT, hzT, hsT, hbT⟩ := info_parts infoTok
    have h0 := World.ownsRow_nil x3 x3.heap.size 70 3
    have H0 := Lib.hid h0
    clear h0
    go_wp2_with fail
    go_loopw [5, 27] (fun ov iv wr => BkRel x3 line N ov iv wr) (fun _ iv _ => N - (intOf iv).toNat)
    case atStart => exact ⟨0, by omega, rfl, H0.out, Below.refl _ _⟩
    case round =>
      obtain ⟨k, hk, rfl, hown, hB⟩ := hrel
      have HO := Lib.hid hown
      have HB := Lib.hid hB
      obtain ⟨Ao, co, rfl, hSl⟩ := row_slk hown
      have hfr : ∀ a, Ao = some a → x3.heap.size ≤ a.block := fun a ha => (own_blk hown a.block (by rw [ha]; rfl)).1
      have Hfr := Lib.hid hfr
      clear hfr
      have HSl := Lib.hid hSl
      clear hown hB hSl
      by_cases hlt : k < N
      · have hltI : (k : Int) < N := by omega
        have hkw : IntKind.i64.wrap ((line : Int) + k) = (line : Int) + k := by rw [IntKind.wrap_i64]; omega
        have HO2 := Lib.hid (HO.out.alloc (.cells #[.int .u8 59, .string ⟨#[]⟩, .int .i64 ((line : Int) + k)] 70))
        have HB2 := Lib.hid (HB.out.alloc HB.out.size (.cells #[.int .u8 59, .string ⟨#[]⟩, .int .i64 ((line : Int) + k)] 70))
        have hyz := HB2.out.size
        go_wp2_with (at_builtin; refine wpList_append_own _ rfl (.tmp 30) (.tmp 35) 95 rfl x3.heap.size 70 iT (.agg #[.int .u8 0, .string ByteArray.empty, .int .i64 0]) 3 32 Tryz.underlying95 hiT hzT hsT hbT rfl (by omega) (.slice Ao k co) k (tksV (nlT line k)) rfl HO2.out ⟨wr.heap.size, 0, none⟩ 1 1 (tksV [⟨59, [], line + k⟩]) rfl rfl (fun j v hv => World.news_of_block (w := wr.alloc _) (heap_alloc_new wr _) j v (by rw [← hv]; rfl)) (tksV_one _) (by unfold maxLen; omega) (by omega) hyz ?_)
        intro v1 wp hown1 hgrow1 _
        have Hm : Hid (BkRel x3 line N v1 (.int .i64 ((k : Int) + 1)) wp) := Lib.hid ⟨k + 1, by omega, by go_num, by rw [nlT_succ, tksV_app]; exact hown1, HB2.out.grown hgrow1 hyz (fun q hq => (own_blk HO2.out q hq).1)⟩
        clear hown1 hgrow1 HO HO2 HB HB2 HSl
        go_wp2_with fail
        exact ⟨Hm.out, by simp [intOf]; omega⟩
      · have hkN : k = N := by omega
        clear hlt hk
        subst hkN
        go_wp2_with fail
        go_ret
        rw [Hr2.out]
        refine ⟨Ao, co, by simp only [nlT_len]; rfl, by simp only [nlT_len]; exact ⟨HSl.out, fun a ha => Nat.le_trans HF2.out.size (Hfr.out a ha)⟩, (HB.out.block _ (lt_of_heap HL2.out)).trans HL2.out, HF2.out.trans (Fr.of_below HB.out _)⟩
end Go.Proofs.YtniphdhbgebedaaGreatDoor
