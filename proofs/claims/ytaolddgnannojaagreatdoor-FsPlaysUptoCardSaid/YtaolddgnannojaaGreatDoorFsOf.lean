/-
  The small functions of a file system: of, Has, full, Size ..
-/
import Derived.Test.YtaolddgnannojaaGreatDoorG1
import Derived.Test.YtaolddgnannojaaGreatDoorFsAbs
import Derived.Lib.Hide
namespace Go.Proofs.YtaolddgnannojaaGreatDoor
open Go.RowKit Go.Maps

attribute [local go_sem] lt1 lt2 lt3 lt4 lt5 lt6

theorem ik_same (a n : Nat) : (ik a).sameKey (ik n) = (a == n) := by
  unfold ik Lit.sameKey
  rw [Bool.eq_iff_iff]
  simp
  omega
theorem fD_at : ∀ (fs : List (Nat × FileC)) (fl : List (Nat × Value)), fs.length = fl.length → ∀ n, (fD fs fl).atKey (ik n) .nil = (match fs.findIdx? (fun p => p.1 == n) with
    | some i => nval (fl.getD i (0, undef)).1
    | none => .nil)
  | [], [], _, n => rfl
  | e :: fs, f :: fl, h, n => by
    have ih := fD_at fs fl (by simpa using h) n
    unfold fD DataW.atKey at ih ⊢
    simp only [List.zip_cons_cons, List.map_cons, List.find?_cons, ik_same, List.findIdx?_cons]
    cases he : e.1 == n with
    | true => simp
    | false =>
      simp only [ih]
      cases fs.findIdx? (fun p => p.1 == n) <;> simp
def FsMem.ptr (M : FsMem) (i : Option Nat) : Value := .pointer (i.map fun j => ⟨(M.fl.getD j (0, undef)).1, 0, none⟩)
theorem zeroInt (w : World) : (zeroValue 3).run Tryz.prog w = .ok (.int .i64 0) w := by kernel_rfl
theorem zeroFile (w : World) : (zeroValue 55).run Tryz.prog w = .ok (.pointer none) w := by kernel_rfl
theorem FsAt.name_run {w : World} {M : FsMem} {S : FsSt} (h : FsAt w M S) (s : ByteArray) (hs : s.size ≤ maxLen) :
    (Instr.lookup 46 (.map (some M.nm)) (.string s) false).run Tryz.prog w = .ok (.int .i64 (nget S.names s : Nat)) w := by
  obtain ⟨c, hr, hat, _⟩ := h.names.lookup_int strK Tryz.underlying46 Tryz.underlying3 (zeroInt w) (WideMaps.keyOf_string_mk Tryz.underlying9 hs)
  have h2 := h.natN.at_ (sk s)
  have h3 : (DataW.lit (Lit.int .i64 c) : Dm) = nval (nget S.names s) := hat.symm.trans h2
  simp only [nval, DataW.lit.injEq, Lit.int.injEq, true_and] at h3
  rw [hr, h3]
theorem FsAt.dur_run {w : World} {M : FsMem} {S : FsSt} (h : FsAt w M S) (s : ByteArray) (hs : s.size ≤ maxLen) :
    (Instr.lookup 46 (.map (some M.dm)) (.string s) false).run Tryz.prog w = .ok (.int .i64 (nget S.dur s : Nat)) w := by
  obtain ⟨c, hr, hat, _⟩ := h.dur.lookup_int strK Tryz.underlying46 Tryz.underlying3 (zeroInt w) (WideMaps.keyOf_string_mk Tryz.underlying9 hs)
  have h2 := h.natD.at_ (sk s)
  have h3 : (DataW.lit (Lit.int .i64 c) : Dm) = nval (nget S.dur s) := hat.symm.trans h2
  simp only [nval, DataW.lit.injEq, Lit.int.injEq, true_and] at h3
  rw [hr, h3]
theorem FsAt.file_run {w : World} {M : FsMem} {S : FsSt} (h : FsAt w M S) (n : Nat) (hn : n ≤ 9223372036854775807) :
    (Instr.lookup 45 (.map (some M.fm)) (.int .i64 (n : Nat)) false).run Tryz.prog w = .ok (M.ptr (S.idx n)) w := by
  obtain ⟨v, ps, hr, hv⟩ := h.files.lookup intK Tryz.underlying45 (zeroFile w) RPtr_none (keyOf_int_mk (a := (n : Int)) Tryz.underlying3 (WalkArith.wf_i64 (by omega)))
  rw [hr]
  have h2 := fD_at S.files M.fl h.each.length n
  unfold ik at h2
  rw [h2] at hv
  unfold FsMem.ptr FsSt.idx
  cases hi : S.files.findIdx? (fun p => p.1 == n) with
  | none => rw [hi] at hv; rw [RPtr_nil hv]; rfl
  | some i => rw [hi] at hv; rw [RPtr_nval hv]; rfl
theorem All2.drew {α β : Type} {Q Q' : α → β → Prop} (hq : ∀ a b, Q a b → Q' a b) {l : List α} {m : List β} (h : All2 Q l m) : All2 Q' l m := h.mono hq
theorem FsAt.drewN {w : World} {M : FsMem} {S : FsSt} (h : FsAt w M S) (n : Nat) : FsAt (w.drewN n) M S :=
  ⟨h.blk, h.names, h.dur, h.natN, h.natD, h.files, h.each, h.pend, h.nodup⟩
theorem of_any (w : World) (M : FsMem) (S : FsSt) (h : FsAt w M S) (s : ByteArray) (hs : s.size ≤ maxLen) (hn : nget S.names s ≤ 9223372036854775807) :
    Calls Tryz.prog 22 #[.pointer (some ⟨M.fb, 0, none⟩), .string s] w fun e w' => e = .returned (M.ptr (S.of s)) ∧ ∃ n, w' = w.drewN n := by
  have hd : FsAt w.drew M S := h.drewN 1
  have k1 := hd.name_run s hs
  have k2 := hd.file_run (nget S.names s) hn
  have c1 := (blk_cells hd.blk).1 1
  have c3 := (blk_cells hd.blk).1 3
  simp only [List.getElem?_toArray, List.getElem?_cons_zero, List.getElem?_cons_succ] at c1 c3
  unfold FsSt.of
  generalize M.ptr (S.idx (nget S.names s)) = v at *
  generalize nget S.names s = k at *
  clear h hd
  go_enter Tryz.func22, Tryz.ntmps22
  go_wp2_with fail
  with_reducible refine g_mix [(0, none), (1, none), (2, none), (3, none), (4, none), (5, none), (6, none), (7, none), (8, none), (9, none), (10, none), (11, none)] (fun w' => (w'.cell? ⟨M.fb, 1, none⟩ = some (.map (some M.fm)) ∧ w'.cell? ⟨M.fb, 3, none⟩ = some (.map (some M.nm))) ∧ (Instr.lookup 46 (.map (some M.nm)) (.string s) false).run Tryz.prog w' = .ok (.int .i64 (k : Nat)) w' ∧ (Instr.lookup 45 (.map (some M.fm)) (.int .i64 (k : Nat)) false).run Tryz.prog w' = .ok v w') (by kernel_rfl) (by kernel_rfl) ?_
  intro OPS
  simp only [mixOf, nthO, consO]
  iterate 12 ((with_reducible refine m_val (v := ?_) ?_ ?_ ?_); rotate_left; (rintro _ ⟨⟨h1, h2⟩, h3, h4⟩; go_simp; first | done | rfl | (constructor <;> rfl)); exact ⟨⟨c1, c3⟩, k1, k2⟩)
  with_reducible refine m_end ?_
  simp only [Act.put, List.setIfInBounds_toArray, List.set_cons_zero, List.set_cons_succ]
  go_wp2_with fail
  go_ret
  exact ⟨rfl, 1, rfl⟩
/-- are so many bytes more, and files more, too many? -/
def FsSt.full (S : FsSt) (b f : Int) : Bool := decide ((S.quota : Int) - S.size < b) || decide ((4000 : Int) - Maps.size S.names < f)
theorem FsAt.len_run {w : World} {M : FsMem} {S : FsSt} (h : FsAt w M S) (ty : TypeId) : (Builtin.len_ #[46] ty #[.map (some M.nm)]).run Tryz.prog w = .ok (.int .i64 (Maps.size S.names : Nat)) w := h.names.len Tryz.underlying46 ty
theorem full_any (w : World) (M : FsMem) (S : FsSt) (h : FsAt w M S) (b f : Int) (hq : S.quota ≤ 67108864) (h1 : -1099511627776 ≤ S.size) (h2 : S.size ≤ 1099511627776) (hl : Maps.size S.names ≤ 1099511627776) :
    Calls Tryz.prog 23 #[.pointer (some ⟨M.fb, 0, none⟩), .int .i64 b, .int .i64 f] w fun e w' => e = .returned (.bool (S.full b f)) ∧ ∃ n, w' = w.drewN n := by
  have hd : FsAt w.drew M S := h.drewN 1
  have k1 := hd.len_run
  have c0 := (blk_cells hd.blk).1 0
  have c5 := (blk_cells hd.blk).1 5
  have c3 := (blk_cells hd.blk).1 3
  simp only [List.getElem?_toArray, List.getElem?_cons_zero, List.getElem?_cons_succ] at c0 c5 c3
  unfold FsSt.full
  have r1 : IntKind.i64.wrap ((S.quota : Int) - S.size) = (S.quota : Int) - S.size := by rw [IntKind.wrap_i64]; omega
  have r2 : IntKind.i64.wrap ((4000 : Int) - Maps.size S.names) = (4000 : Int) - Maps.size S.names := by rw [IntKind.wrap_i64]; omega
  generalize Maps.size S.names = k at *
  generalize S.size = z at *
  generalize S.quota = q at *
  clear h hd
  go_enter Tryz.func23, Tryz.ntmps23
  go_wp2_with fail
  by_cases hb : (q : Int) - z < b
  · with_reducible refine g_mixx [(0, 0), (1, 0), (2, 0), (3, 0), (4, 0), (5, 0), (6, 0), (7, 0), (8, 0), (9, 0), (10, 0), (11, 0), (12, 0), (13, 0), (14, 0), (15, 0), (16, 0), (17, 0), (18, 0), (19, 0), (20, 0), (21, 0)] (fun w' => (w'.cell? ⟨M.fb, 0, none⟩ = some (.int .i64 (q : Nat)) ∧ w'.cell? ⟨M.fb, 5, none⟩ = some (.int .i64 z)) ∧ w'.cell? ⟨M.fb, 3, none⟩ = some (.map (some M.nm)) ∧ ∀ ty, (Builtin.len_ #[46] ty #[.map (some M.nm)]).run Tryz.prog w' = .ok (.int .i64 (k : Nat)) w') 11 _ rfl (by kernel_rfl) (by kernel_rfl) ?_ ?_
    · exact ⟨⟨c0, c5⟩, c3, k1⟩
    intro OPS HD
    have HD : (OPS[11]?).bind (·.dst) = some 18 := HD
    simp only [mixX, nthO, consX]
    iterate 12 ((with_reducible refine x_val (v := ?_) ?_ ?_ ?_); rotate_left; (rintro _ ⟨⟨h1, h2⟩, h3, h4⟩; (try simp only [r1]); go_simp; first | done | rfl | (constructor <;> rfl)); exact ⟨⟨c0, c5⟩, c3, k1⟩)
    iterate 8 (with_reducible refine x_outg (c := true) HD (by go_simp) rfl ⟨⟨c0, c5⟩, c3, k1⟩ ?_)
    iterate 2 ((with_reducible refine x_val (v := ?_) ?_ ?_ ?_); rotate_left; (rintro _ ⟨⟨h1, h2⟩, h3, h4⟩; go_simp; first | done | rfl | (constructor <;> rfl)); exact ⟨⟨c0, c5⟩, c3, k1⟩)
    with_reducible refine x_end ?_
    simp only [Act.put, List.setIfInBounds_toArray, List.set_cons_zero, List.set_cons_succ]
    go_wp2_with fail
    go_ret
    exact ⟨by simp, 1, rfl⟩
  · have hb' : b ≤ (q : Int) - z := by omega
    with_reducible refine g_mixx [(0, 0), (1, 0), (2, 0), (3, 0), (4, 0), (5, 0), (6, 0), (7, 0), (8, 0), (9, 0), (10, 0), (11, 0), (12, 0), (13, 0), (14, 0), (15, 0), (16, 0), (17, 0), (18, 0), (19, 0), (20, 0), (21, 0)] (fun w' => (w'.cell? ⟨M.fb, 0, none⟩ = some (.int .i64 (q : Nat)) ∧ w'.cell? ⟨M.fb, 5, none⟩ = some (.int .i64 z)) ∧ w'.cell? ⟨M.fb, 3, none⟩ = some (.map (some M.nm)) ∧ ∀ ty, (Builtin.len_ #[46] ty #[.map (some M.nm)]).run Tryz.prog w' = .ok (.int .i64 (k : Nat)) w') 11 _ rfl (by kernel_rfl) (by kernel_rfl) ?_ ?_
    · exact ⟨⟨c0, c5⟩, c3, k1⟩
    intro OPS HD
    have HD : (OPS[11]?).bind (·.dst) = some 18 := HD
    simp only [mixX, nthO, consX]
    iterate 12 ((with_reducible refine x_val (v := ?_) ?_ ?_ ?_); rotate_left; (rintro _ ⟨⟨h1, h2⟩, h3, h4⟩; (try simp only [r1]); go_simp; first | done | rfl | (constructor <;> rfl)); exact ⟨⟨c0, c5⟩, c3, k1⟩)
    iterate 8 ((with_reducible refine x_valg (v := ?_) HD ?_ ?_ ?_ ?_); rotate_left; go_simp; (rintro _ ⟨⟨h1, h2⟩, h3, h4⟩; (try simp only [r2]); go_simp; first | done | rfl | (constructor <;> rfl)); exact ⟨⟨c0, c5⟩, c3, k1⟩)
    iterate 2 ((with_reducible refine x_val (v := ?_) ?_ ?_ ?_); rotate_left; (rintro _ ⟨⟨h1, h2⟩, h3, h4⟩; (try simp only [r1]); go_simp; first | done | rfl | (constructor <;> rfl)); exact ⟨⟨c0, c5⟩, c3, k1⟩)
    with_reducible refine x_end ?_
    simp only [Act.put, List.setIfInBounds_toArray, List.set_cons_zero, List.set_cons_succ]
    go_wp2_with fail
    go_ret
    exact ⟨by rw [decide_eq_false (show ¬ (q : Int) - z < b by omega), Bool.false_or]; rfl, 1, rfl⟩
end Go.Proofs.YtaolddgnannojaaGreatDoor
