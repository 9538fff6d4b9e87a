/-
  mewsref23.FormatAct.
-/
import Derived.Test.YtbmnbhammganfaaDoorTxRfp
import Derived.Test.YtbmnbhammganfaaDoorTxRax
import Derived.Test.YtbmnbhammganfaaDoorTxRpa
namespace Go.Proofs.YtbmnbhammganfaaDoor
open Go.RowKit Go.Maps

set_option linter.unusedSimpArgs false

attribute [local go_sem] lt1 lt2 lt3 lt4 lt5 lt6

def ffm (R : RActD) (F : RForm) : Bool := decide ((F.kind : Int) = R.kind) && (decide (R.kind = 8) || decide ((F.sub : Int) = R.sub))
def RfPost (w : World) (p : List UInt8 × Int) (e : Ending) (w' : World) : Prop := e = .returned (.tuple #[.string (mkS p.1), .int .i64 p.2]) ∧ Below w.heap.size w w'
theorem rffind_at {R : RActD} {bad : Bool} {i : Nat} {F : RForm} (hi : RFORMS[i]? = some F) (hno : ∀ G ∈ RFORMS.take i, ffm R G = false) (hm : ffm R F = true) : rformat R bad = if R.kind = 8 ∧ ¬ (1 ≤ R.sub ∧ R.sub ≤ 7) then ([], 7) else if bad = true then ([], 15) else match rsaidL F.says R.texts R.nums R.sub with
    | none => ([], 6)
    | some ws => limP ((cutL 32 F.word ++ ws).map writeW) := by
  have h1 : RFORMS.find? (ffm R) = some F := by
    have : RFORMS = RFORMS.take i ++ (F :: RFORMS.drop (i + 1)) := by
      obtain ⟨hl, he⟩ := List.getElem?_eq_some_iff.1 hi
      rw [← he, ← List.drop_eq_getElem_cons hl, List.take_append_drop]
    rw [this, List.find?_append, List.find?_eq_none.2 (fun G hG => by rw [hno G hG]; decide), List.find?_cons, hm]
    rfl
  unfold rformat
  have h2 : RFORMS.find? (fun F => decide ((F.kind : Int) = R.kind) && (decide (R.kind = 8) || decide ((F.sub : Int) = R.sub))) = some F := h1
  rw [h2]
  simp only
  split
  · rfl
  · split
    · rfl
    · cases rsaidL F.says R.texts R.nums R.sub <;> rfl
theorem rffind_none {R : RActD} {bad : Bool} (hno : ∀ G ∈ RFORMS, ffm R G = false) : rformat R bad = ([], 7) := by
  unfold rformat
  have h2 : RFORMS.find? (fun F => decide ((F.kind : Int) = R.kind) && (decide (R.kind = 8) || decide ((F.sub : Int) = R.sub))) = none := List.find?_eq_none.2 (fun G hG => by
    have := hno G hG
    unfold ffm at this
    rw [this]
    decide)
  rw [h2]
def SaidAt (cs : List UInt8) (ts : List (List UInt8)) (ns : List Int) (sub : Int) (k t n : Nat) (acc : List (List UInt8)) : Prop := rsaidL cs ts ns sub = (rsaidL (cs.drop k) (ts.drop t) (ns.drop n) sub).map (acc ++ ·)
theorem SaidAt.zero (cs : List UInt8) (ts : List (List UInt8)) (ns : List Int) (sub : Int) : SaidAt cs ts ns sub 0 0 0 [] := by unfold SaidAt; simp
theorem rsaid_text {c : UInt8} {cs : List UInt8} {x : List UInt8} {ts : List (List UInt8)} {ns : List Int} {k : Int} (h : c = 116) : rsaidL (c :: cs) (x :: ts) ns k = (rsaidL cs ts ns k).map (x :: ·) := by simp [rsaidL, h]
theorem rsaid_num {c : UInt8} {cs : List UInt8} {v : Int} {ts : List (List UInt8)} {ns : List Int} {k : Int} (h0 : ¬ c = 116) (h : c = 110) : rsaidL (c :: cs) ts (v :: ns) k = if inN v = true then (rsaidL cs ts ns k).map (Lib.itoa v :: ·) else none := by
  subst h
  simp [rsaidL]
theorem rsaid_kind {c : UInt8} {cs : List UInt8} {ts : List (List UInt8)} {ns : List Int} {k : Int} (h0 : ¬ c = 116) (h : ¬ c = 110) : rsaidL (c :: cs) ts ns k = (rsaidL cs ts ns k).map (kindW k :: ·) := by simp [rsaidL, h0, h]
theorem SaidAt.text {cs : List UInt8} {ts : List (List UInt8)} {ns : List Int} {sub : Int} {k t n : Nat} {acc : List (List UInt8)} {c : UInt8} {x : List UInt8} (h : SaidAt cs ts ns sub k t n acc) (hc : cs[k]? = some c) (h1 : c = 116) (hx : ts[t]? = some x) : SaidAt cs ts ns sub (k + 1) (t + 1) n (acc ++ [x]) := by
  unfold SaidAt at h ⊢
  rw [h, at_cons hc, at_cons hx, rsaid_text h1]
  simp only [Option.map_map]
  congr 1
  funext l
  simp
theorem SaidAt.num {cs : List UInt8} {ts : List (List UInt8)} {ns : List Int} {sub : Int} {k t n : Nat} {acc : List (List UInt8)} {c : UInt8} {v : Int} (h : SaidAt cs ts ns sub k t n acc) (hc : cs[k]? = some c) (h0 : ¬ c = 116) (h1 : c = 110) (hx : ns[n]? = some v) (hv : inN v = true) : SaidAt cs ts ns sub (k + 1) t (n + 1) (acc ++ [Lib.itoa v]) := by
  unfold SaidAt at h ⊢
  rw [h, at_cons hc, at_cons hx, rsaid_num h0 h1]
  simp only [if_pos hv, Option.map_map]
  congr 1
  funext l
  simp
theorem SaidAt.bad {cs : List UInt8} {ts : List (List UInt8)} {ns : List Int} {sub : Int} {k t n : Nat} {acc : List (List UInt8)} {c : UInt8} {v : Int} (h : SaidAt cs ts ns sub k t n acc) (hc : cs[k]? = some c) (h0 : ¬ c = 116) (h1 : c = 110) (hx : ns[n]? = some v) (hv : ¬ inN v = true) : rsaidL cs ts ns sub = none := by
  unfold SaidAt at h
  rw [h, at_cons hc, at_cons hx, rsaid_num h0 h1]
  simp only [if_neg hv]
  rfl
theorem SaidAt.kind {cs : List UInt8} {ts : List (List UInt8)} {ns : List Int} {sub : Int} {k t n : Nat} {acc : List (List UInt8)} {c : UInt8} (h : SaidAt cs ts ns sub k t n acc) (hc : cs[k]? = some c) (h0 : ¬ c = 116) (h1 : ¬ c = 110) : SaidAt cs ts ns sub (k + 1) t n (acc ++ [kindW sub]) := by
  unfold SaidAt at h ⊢
  rw [h, at_cons hc, rsaid_kind h0 h1]
  simp only [Option.map_map]
  congr 1
  funext l
  simp
theorem SaidAt.end_ {cs : List UInt8} {ts : List (List UInt8)} {ns : List Int} {sub : Int} {k t n : Nat} {acc : List (List UInt8)} (h : SaidAt cs ts ns sub k t n acc) (hk : cs.length ≤ k) : rsaidL cs ts ns sub = some acc := by
  unfold SaidAt at h
  rw [h, List.drop_of_length_le hk]
  simp [rsaidL]
theorem count_take {cs : List UInt8} {k : Nat} {c : UInt8} (h : cs[k]? = some c) (b : UInt8) : (cs.take (k + 1)).count b = (cs.take k).count b + if c = b then 1 else 0 := by
  rw [take_snoc h, List.count_append, List.count_singleton]
  by_cases hb : c = b <;> simp [hb]
theorem count_lt {cs : List UInt8} {k : Nat} {b : UInt8} (h : cs[k]? = some b) : (cs.take k).count b < cs.count b := by
  have h1 := count_take h b
  rw [if_pos rfl] at h1
  have h2 : (cs.take (k + 1)).count b ≤ cs.count b := (List.take_sublist _ _).count_le _
  omega
theorem cut_word {F : RForm} (h : F ∈ RFORMS) : F.word.length ≤ 13 ∧ (cutL 32 F.word).length ≤ 2 ∧ ∀ x ∈ cutL 32 F.word, x.length ≤ 13 := by
  have : ∀ F ∈ RFORMS, F.word.length ≤ 13 ∧ (cutL 32 F.word).length ≤ 2 ∧ ∀ x ∈ cutL 32 F.word, x.length ≤ 13 := by decide +kernel
  exact this F h
theorem kw_at (j : Fin 7) : (txs KW)[j.val]? = some (.string (mkS (kindW ((j.val : Int) + 1)))) := by
  rcases j with ⟨j, hj⟩
  have : j = 0 ∨ j = 1 ∨ j = 2 ∨ j = 3 ∨ j = 4 ∨ j = 5 ∨ j = 6 := by omega
  rcases this with rfl | rfl | rfl | rfl | rfl | rfl | rfl <;> rfl
/-- the forms' loop -/
def FFRel (R : RActD) (x0 : World) (iv : Value) (wr : World) : Prop := ∃ i : Nat, i ≤ 15 ∧ iv = .int .i64 (i : Nat) ∧ (∀ F ∈ RFORMS.take i, ffm R F = false) ∧ Below x0.heap.size x0 wr
theorem FFRel.drew {R : RActD} {x0 wr : World} {iv : Value} (h : FFRel R x0 iv wr) (n : Nat) : FFRel R x0 iv (wr.drewN n) := by
  obtain ⟨i, h1, h2, h3, h4⟩ := h
  exact ⟨i, h1, h2, h3, below_drewN h4 n⟩
def SayRel (R : RActD) (F : RForm) (x2 : World) (ov tv nv kv : Value) (wr : World) : Prop := ∃ (k t n : Nat) (acc : List (List UInt8)) (L : List ByteArray), k ≤ F.says.length ∧ kv = .int .i64 (k : Nat) ∧ tv = .int .i64 (t : Nat) ∧ nv = .int .i64 (n : Nat) ∧ SaidAt F.says R.texts R.nums R.sub k t n acc ∧ L.map toL = cutL 32 F.word ++ acc ∧ t = (F.says.take k).count 116 ∧ n = (F.says.take k).count 110 ∧
  wr.ownsRow x2.heap.size 9 1 ov L.length (txs L) ∧ Below x2.heap.size x2 wr ∧ L.length ≤ k + 2 ∧ ∀ p ∈ L, p.size ≤ 1048576
set_option maxRecDepth 100000 in
set_option maxHeartbeats 40000000 in
theorem rformat_ref (w : World) (V : Array Value) (R : RActD) (bad : Bool) (hw : Lw w) (hV : RBox w V R) (hsm : ∀ t ∈ R.texts, t.length ≤ 1048576) (hnum : ∀ n ∈ R.nums, -9223372036854775808 ≤ n ∧ n ≤ 9223372036854775807) (hcnt : ∀ F ∈ RFORMS, (F.kind : Int) = R.kind → F.says.count 116 ≤ R.texts.length ∧ F.says.count 110 ≤ R.nums.length) :
    Calls Tryd.prog 52 #[.agg V, .bool bad] w (RfPost w (rformat R bad)) := by
  obtain ⟨A1, c1, A2, c2, D, rfl, hD, h1, h2⟩ := hV
  have hDl : D.length = R.texts.length := by rw [← hD, List.length_map]
  have hDs : ∀ p ∈ D, p.size ≤ 1048576 := fun p hp => by
    have := hsm (toL p) (by rw [← hD]; exact List.mem_map.2 ⟨p, hp, rfl⟩)
    rwa [toL_len] at this
  have HD := Lib.hid hD
  have HS1 := Lib.hid h1
  have HS2 := Lib.hid h2
  have Hw := Lib.hid hw
  have Hsm := Lib.hid hsm
  have Hnum := Lib.hid hnum
  have Hcnt := Lib.hid hcnt
  have HDs := Lib.hid hDs
  have HDl := Lib.hid hDl
  obtain ⟨NL, hNL⟩ : ∃ NL, NL = R.nums.length := ⟨_, rfl⟩
  rw [← hNL]
  have HNL := Lib.hid hNL
  clear hD h1 h2 hw hsm hnum hcnt hDs hDl hNL
  go_enter Tryd.func52, Tryd.ntmps52
  go_wp2_with fail
  refine (rforms_own _).mono ?_
  rintro e x2 ⟨gF, rfl, hf2, hB2, hgF⟩
  have hx1z := hB2.size
  have ha2 := (hB2.block w.heap.size (by simp)).trans (heap_alloc_new _ _)
  have hBw : Below w.heap.size w x2 := ((Below.refl w.heap.size w).alloc (Nat.le_refl _) _).trans (hB2.mono (by simp))
  have HB2 := Lib.hid hBw
  have Ha2 := Lib.hid ha2
  have Hf2 := Lib.hid hf2
  clear hf2 hB2 ha2 hBw
  go_wp2_with fail
  go_loopw [7] (fun iv wr => FFRel R x2 iv wr) (fun iv _ => 15 - (intOf iv).toNat)
  case atStart => exact ⟨0, by omega, rfl, by simp, Below.refl _ _⟩
  case round =>
    obtain ⟨i, hi, rfl, hno, hB⟩ := hrel
    have Hno := Lib.hid hno
    have HB := Lib.hid hB
    have hgx := hB.size
    clear hno hB
    by_cases hi15 : i < 15
    · have hiI : (i : Int) < 15 := by omega
      have hir : (0 : Int) ≤ i := by omega
      have hlt : i < RFORMS.length := hi15
      have hfi : RFORMS[i]? = some RFORMS[i] := List.getElem?_eq_getElem hlt
      generalize hfg : RFORMS[i] = F at *
      have Hfi := Lib.hid hfi
      have HF : Hid (F ∈ RFORMS) := Lib.hid (List.mem_of_getElem? hfi)
      clear hfg hfi hlt
      have hrow : ∀ (x : World), Below x2.heap.size x2 x → ∀ j v, (rfV F)[j]? = some v → x.cell? ⟨gF, i * 4 + j, none⟩ = some v := fun x hx j v hv => by
        have h2 := rfsV_at _ _ _ Hfi.out j v hv
        have h3 := hx.block gF (lt_of_heap Hf2.out)
        have h4 := (blk_cells (h3.trans Hf2.out)).1 (i * 4 + j)
        rw [h4, List.getElem?_toArray]
        exact h2
      have Hrow := Lib.hid hrow
      obtain ⟨FK, hFK⟩ : ∃ FK : Int, FK = (F.kind : Nat) := ⟨_, rfl⟩
      obtain ⟨FS, hFS⟩ : ∃ FS : Int, FS = (F.sub : Nat) := ⟨_, rfl⟩
      have f0 : wr.cell? ⟨gF, i * 4, none⟩ = some (.int .i64 FK) := by have := hrow wr HB.out 0 _ rfl; rw [Nat.add_zero] at this; rw [hFK]; exact this
      have f1 : wr.cell? ⟨gF, i * 4 + 1, none⟩ = some (.int .i64 FS) := by rw [hFS]; exact hrow wr HB.out 1 _ rfl
      have har := (HB.out.block w.heap.size (lt_of_heap Ha2.out)).trans Ha2.out
      have a0 : wr.cell? ⟨w.heap.size, 0, none⟩ = some (.int .i64 R.kind) := (blk_cells har).1 0
      have a1 : wr.cell? ⟨w.heap.size, 1, none⟩ = some (.int .i64 R.sub) := (blk_cells har).1 1
      have Hnx : Hid (ffm R F = false → FFRel R x2 (.int .i64 ((i : Int) + 1)) wr) := Lib.hid (fun hm => ⟨i + 1, by omega, by go_num, fun f' hf' => by
        rw [take_snoc Hfi.out, List.mem_append, List.mem_singleton] at hf'
        rcases hf' with hf' | rfl
        · exact Hno.out f' hf'
        · exact hm, HB.out⟩)
      clear hrow har
      have HFK := Lib.hid hFK
      have HFS := Lib.hid hFS
      clear hFK hFS
      by_cases hk : ¬ FK = R.kind
      · have hkb : (FK != R.kind) = true := bne_iff_ne.2 hk
        have Hm := Lib.hid (Hnx.out (by unfold ffm; rw [← HFK.out, decide_eq_false hk]; rfl))
        clear hk
        go_wp2_with fail
        go_quiet (fail)
        go_wp2_with fail
        exact ⟨Hm.out.drew _, by simp [intOf]; omega⟩
      have hk := Decidable.not_not.1 hk
      have hkb : (FK != R.kind) = false := by rw [bne_eq_false_iff_eq]; exact hk
      by_cases hs : ¬ (R.kind = 8 ∨ FS = R.sub)
      · have hs8 : ¬ R.kind = 8 := fun e => hs (.inl e)
        have hss : ¬ FS = R.sub := fun e => hs (.inr e)
        have hs8b : (R.kind != 8) = true := bne_iff_ne.2 hs8
        have hssb : (FS != R.sub) = true := bne_iff_ne.2 hss
        have Hm := Lib.hid (Hnx.out (by unfold ffm; rw [← HFS.out, decide_eq_false hs8, decide_eq_false hss]; simp))
        clear hk hs hs8 hss
        go_wp2_with fail
        go_quiet (fail)
        go_wp2_with fail
        exact ⟨Hm.out.drew _, by simp [intOf]; omega⟩
      have hs := Decidable.not_not.1 hs
      have HM : Hid (ffm R F = true) := Lib.hid (by
        unfold ffm
        rw [← HFK.out, ← HFS.out, decide_eq_true hk]
        rcases hs with e | e
        · rw [decide_eq_true e]; rfl
        · rw [decide_eq_true e]; simp)
      have Hk := Lib.hid hk
      clear hk
      by_cases h8 : R.kind = 8
      · have h8b : (R.kind != 8) = false := by rw [h8]; rfl
        have h8e : (R.kind == 8) = true := by rw [h8]; rfl
        by_cases hr : ¬ (1 ≤ R.sub ∧ R.sub ≤ 7)
        · have Hfin : Hid (∀ wq, Below x2.heap.size x2 wq → RfPost w (rformat R bad) (.returned (.tuple #[.string ⟨#[]⟩, .int .i64 7])) wq) := Lib.hid (fun wq hq => by
            rw [rffind_at Hfi.out Hno.out HM.out, if_pos ⟨h8, hr⟩]
            exact ⟨rfl, HB2.out.trans (hq.mono HB2.out.size)⟩)
          have Hr := Lib.hid hr
          clear h8 hs hr
          by_cases hr1 : R.sub < 1
          · go_wp2_with fail
            go_quiet (fail)
            go_wp2_with fail
            go_ret2
            exact Hfin.out _ (below_drewN HB.out _)
          · have hr7 : 7 < R.sub := by have := Hr.out; omega
            go_wp2_with fail
            go_quiet (fail)
            go_wp2_with fail
            go_ret2
            exact Hfin.out _ (below_drewN HB.out _)
        have hr := Decidable.not_not.1 hr
        obtain ⟨hr1, hr7⟩ := hr
        have hr1n : ¬ R.sub < 1 := by omega
        have hr7n : ¬ 7 < R.sub := by omega
        have HSR : Hid (F.kind = 8 → 1 ≤ R.sub ∧ R.sub ≤ 7) := Lib.hid fun _ => ⟨hr1, hr7⟩
        have Hnot : Hid (¬ (R.kind = 8 ∧ ¬ (1 ≤ R.sub ∧ R.sub ≤ 7))) := Lib.hid fun h => h.2 ⟨hr1, hr7⟩
        clear h8 hs hr1 hr7
        cases bad with
        | true =>
          have Hfin : Hid (∀ wq, Below x2.heap.size x2 wq → RfPost w (rformat R true) (.returned (.tuple #[.string ⟨#[]⟩, .int .i64 15])) wq) := Lib.hid (fun wq hq => by
            rw [rffind_at Hfi.out Hno.out HM.out, if_neg Hnot.out, if_pos rfl]
            exact ⟨rfl, HB2.out.trans (hq.mono HB2.out.size)⟩)
          go_wp2_with fail
          go_quiet (fail)
          go_wp2_with fail
          go_ret2
          exact Hfin.out _ (below_drewN HB.out _)
        | false =>
          have HFm : Hid (rformat R false = match rsaidL F.says R.texts R.nums R.sub with
            | none => ([], 6)
            | some ws => limP ((cutL 32 F.word ++ ws).map writeW)) := Lib.hid (by
              rw [rffind_at Hfi.out Hno.out HM.out, if_neg Hnot.out, if_neg (by decide)])
          obtain ⟨WF, hWF⟩ : ∃ x, x = mkS F.word := ⟨_, rfl⟩
          obtain ⟨SF, hSF⟩ : ∃ x, x = mkS F.says := ⟨_, rfl⟩
          obtain ⟨cw1, cw2, cw3⟩ := cut_word HF.out
          have hWz : WF.size ≤ 1048576 := by rw [hWF, mkS_size]; omega
          have f2 : wr.cell? ⟨gF, i * 4 + 2, none⟩ = some (.string WF) := by rw [hWF]; exact Hrow.out wr HB.out 2 _ rfl
          have HSF := Lib.hid hSF
          have HWF := Lib.hid hWF
          have Hcw := Lib.hid (And.intro cw2 cw3)
          clear hSF hWF cw1 cw2 cw3
          go_wp2_with fail
          go_quiet (fail)
          go_wp2_with fail
          refine (cut_ref _ WF 32 hWz).mono ?_
          rintro e x3 ⟨Dc, v, rfl, hownc, hB3, hDc⟩
          have hqz : x2.heap.size ≤ (wr.drewN nq).heap.size := hgx
          have HB3 : Hid (Below x2.heap.size x2 x3) := Lib.hid ((below_drewN HB.out nq).trans (hB3.mono hqz))
          have Hownc : Hid (x3.ownsRow x2.heap.size 9 1 v Dc.length (txs Dc)) := Lib.hid (own_base hownc hqz)
          have hDc2 : Dc.map toL = cutL 32 F.word := by rw [hDc, HWF.out, toL_mkS]
          have HDc := Lib.hid hDc2
          have hDcl : Dc.length ≤ 2 := by
            have h1 := congrArg List.length hDc2
            rw [List.length_map] at h1
            have := Hcw.out.1
            omega
          have HDcs : Hid (∀ p ∈ Dc, p.size ≤ 1048576) := Lib.hid (fun p hp => by
            have h1 := Hcw.out.2 (toL p) (by rw [← hDc2]; exact List.mem_map.2 ⟨p, hp, rfl⟩)
            rw [toL_len] at h1
            omega)
          have hx3 := HB3.out.size
          have Hs5 := Lib.hid (rforms_five HF.out)
          obtain ⟨Ac, cc, rfl, _, _, _, _⟩ := own_form hownc
          clear hownc hB3 hDc hDc2 f0 f1 f2 a0 a1 hqz Hnx
          go_wp2_with fail
          go_loopw [8, 9, 10, 11] (fun ov tv nv kv wy => SayRel R F x2 ov tv nv kv wy) (fun _ _ _ kv _ => F.says.length - (intOf kv).toNat)
          case atStart => exact ⟨0, 0, 0, [], Dc, by omega, rfl, rfl, rfl, SaidAt.zero _ _ _ _, by rw [HDc.out, List.append_nil], by simp, by simp, Hownc.out, HB3.out, by omega, HDcs.out⟩
          case round =>
            clear hDcl
            obtain ⟨k, t, n, acc, L, hk, rfl, rfl, rfl, hat, hL, ht, hn, hown, hB, hLl, hLs⟩ := hrel
            have Hat := Lib.hid hat
            have HLm := Lib.hid hL
            have Ht := Lib.hid ht
            have Hn := Lib.hid hn
            have Hown := Lib.hid hown
            have HBr := Lib.hid hB
            have HLs := Lib.hid hLs
            have hrz := hB.size
            have hL7 : L.length ≤ 7 := by have := Hs5.out; omega
            have hk5 : k ≤ 5 := by have := Hs5.out; omega
            have ht5 : t ≤ 5 := by
              rw [ht]
              have h1 := List.count_le_length (a := (116 : UInt8)) (l := F.says.take k)
              rw [List.length_take] at h1
              omega
            have hn5 : n ≤ 5 := by
              rw [hn]
              have h1 := List.count_le_length (a := (110 : UInt8)) (l := F.says.take k)
              rw [List.length_take] at h1
              omega
            have f3 : wr.cell? ⟨gF, i * 4 + 3, none⟩ = some (.string SF) := by rw [HSF.out]; exact Hrow.out wr hB 3 _ rfl
            have har := (hB.block w.heap.size (lt_of_heap Ha2.out)).trans Ha2.out
            have a1 : wr.cell? ⟨w.heap.size, 1, none⟩ = some (.int .i64 R.sub) := (blk_cells har).1 1
            have a2 : wr.cell? ⟨w.heap.size, 2, none⟩ = some (.slice A1 D.length c1) := (blk_cells har).1 2
            have a3 : wr.cell? ⟨w.heap.size, 3, none⟩ = some (.slice A2 NL c2) := (blk_cells har).1 3
            obtain ⟨Av, cv, rfl, _, _, _, _⟩ := own_form hown
            obtain ⟨iS, hiS, hzS, hsS, hbS⟩ := info_parts infoStr1
            clear hat hL ht hn hown hB hLs har
            by_cases hlt : k < F.says.length
            · have hkS : k < SF.size := by rw [HSF.out, mkS_size]; exact hlt
              have hkSI : (k : Int) < SF.size := by omega
              have hkr : (0 : Int) ≤ k := by omega
              obtain ⟨ch, hch⟩ : ∃ ch, ch = F.says.getD k 0 := ⟨_, rfl⟩
              have hcb : SF[k] = ch := (str_byte hkS).trans (by rw [hch, HSF.out, toL_mkS])
              have Hch := Lib.hid (getD_at hlt hch)
              have hc1 := count_take Hch.out 116
              have hc2 := count_take Hch.out 110
              have Hc1 := Lib.hid hc1
              have Hc2 := Lib.hid hc2
              clear hch hc1 hc2
              by_cases hc : ch = 116
              · have hcI : ((ch.toNat : Int) == 116) = true := by rw [hc]; rfl
                have htl : t < D.length := by
                  have h1 := (Hcnt.out F HF.out (by rw [← HFK.out]; exact Hk.out)).1
                  have h2 := count_lt (show F.says[k]? = some 116 by rw [← hc]; exact Hch.out)
                  rw [Ht.out, HDl.out]
                  omega
                have htI : (t : Int) < D.length := by omega
                have htr : (0 : Int) ≤ t := by omega
                obtain ⟨bt, ot, xt, rfl, hxt, gt⟩ := str_at (x := D) HS1.out htl
                have gtr : wr.cell? ⟨bt, ot + t, none⟩ = some (.string xt) := ((HB2.out.trans (HBr.out.mono HB2.out.size)).cell (World.block_lt_of_cell? w _ gt)).trans gt
                have hxs : xt.size ≤ 1048576 := HDs.out xt (List.mem_of_getElem? hxt)
                have Hxt : Hid (R.texts[t]? = some (toL xt)) := Lib.hid (by rw [← HD.out]; exact map_at hxt)
                have Hc := Lib.hid hc
                clear hc hxt gt
                go_wp2_with (first | (at_builtin; refine wpList_append_own _ rfl _ _ 39 rfl x2.heap.size 9 iS (.string ByteArray.empty) 1 16 Tryd.underlying39 hiS hzS hsS hbS rfl (by omega) (.slice Av L.length cv) L.length (txs L) rfl (Hown.out.alloc _) ⟨wr.heap.size, 0, none⟩ 1 1 [.string xt] rfl rfl (fun j v hv => World.news_of_block (w := wr.alloc _) (heap_alloc_new wr _) j v hv) (txs_one [xt]) (by unfold maxLen; omega) (by omega) (by simp; omega) ?_))
                intro v1 wp hown1 hgrow1 _
                have hm : SayRel R F x2 v1 (.int .i64 ((t : Int) + 1)) (.int .i64 (n : Nat)) (.int .i64 ((k : Int) + 1)) wp := ⟨k + 1, t + 1, n, acc ++ [toL xt], L ++ [xt], by omega, by go_num, by go_num, rfl, Hat.out.text Hch.out Hc.out Hxt.out, by rw [List.map_append, HLm.out, List.append_assoc]; rfl, by rw [Hc1.out, if_pos Hc.out, ← Ht.out], by rw [Hc2.out, if_neg (by rw [Hc.out]; decide), ← Hn.out, Nat.add_zero], txs_push hown1, (HBr.out.alloc hrz _).grown hgrow1 (by simp; omega) (fun q hq => (own_blk Hown.out q hq).1), by simp; omega, fun p hp => by
                  rcases List.mem_append.1 hp with h | h
                  · exact HLs.out p h
                  · rw [List.mem_singleton.1 h]; exact hxs⟩
                have Hm := Lib.hid hm
                obtain ⟨Av1, cv1, rfl, _, _, _, _⟩ := own_form hown1
                clear hm hown1 hgrow1
                go_wp2_with fail
                exact ⟨Hm.out, by simp [intOf]; omega⟩
              have hcI : ((ch.toNat : Int) == 116) = false := by
                rw [beq_eq_false_iff_ne]
                intro h
                have h2 : (116 : UInt8).toNat = 116 := rfl
                exact hc (UInt8.toNat_inj.1 (by omega))
              have Hc := Lib.hid hc
              clear hc
              by_cases hc : ch = 110
              · have hcN : ((ch.toNat : Int) == 110) = true := by rw [hc]; rfl
                have hnl : n < R.nums.length := by
                  have h1 := (Hcnt.out F HF.out (by rw [← HFK.out]; exact Hk.out)).2
                  have h2 := count_lt (show F.says[k]? = some 110 by rw [← hc]; exact Hch.out)
                  rw [Hn.out]
                  omega
                have hnL : n < NL := by rw [HNL.out]; exact hnl
                have hnI : (n : Int) < NL := by omega
                have hnr : (0 : Int) ≤ n := by omega
                obtain ⟨bn, on, vn, rfl, hvn, gn⟩ := int_at HS2.out hnl
                have gnr : wr.cell? ⟨bn, on + n, none⟩ = some (.int .i64 vn) := ((HB2.out.trans (HBr.out.mono HB2.out.size)).cell (World.block_lt_of_cell? w _ gn)).trans gn
                have Hvn := Lib.hid hvn
                obtain ⟨hv1, hv2⟩ := Hnum.out vn (List.mem_of_getElem? hvn)
                have Hcn := Lib.hid hc
                clear hc hvn gn
                by_cases hin : inN vn = true
                · have hin2 := of_decide_eq_true hin
                  have hg1 : ¬ (4611686018427387904 : Int) < vn := by omega
                  have hg2 : ¬ vn < -4611686018427387904 := by omega
                  have Hin := Lib.hid hin
                  have HwR := Lib.hid (Hw.out.below (HB2.out.trans (HBr.out.mono HB2.out.size)))
                  have hil := itoa_len hv1 hv2
                  clear hin hin2
                  go_wp2_with fail
                  refine (itoa_call hv1 hv2 HwR.out).mono ?_
                  rintro e w3 ⟨rfl, hB3⟩
                  obtain ⟨Q, hQ⟩ : ∃ Q, Q = mkS (Lib.itoa vn) := ⟨_, rfl⟩
                  rw [← hQ]
                  have hQz : Q.size ≤ 1048576 := by rw [hQ, mkS_size]; omega
                  have HQ := Lib.hid hQ
                  have Hown3 : Hid (w3.ownsRow x2.heap.size 9 1 (.slice Av L.length cv) L.length (txs L)) := Lib.hid (own_keep Hown.out fun q cs hq => (hB3.block q (lt_of_heap hq)).trans hq)
                  have HBr3 := Lib.hid (HBr.out.trans (hB3.mono hrz))
                  have hrz3 := HBr3.out.size
                  clear hQ hB3 hil
                  go_wp2_with (first | (at_builtin; refine wpList_append_own _ rfl _ _ 39 rfl x2.heap.size 9 iS (.string ByteArray.empty) 1 16 Tryd.underlying39 hiS hzS hsS hbS rfl (by omega) (.slice Av L.length cv) L.length (txs L) rfl (Hown3.out.alloc _) ⟨w3.heap.size, 0, none⟩ 1 1 [.string Q] rfl rfl (fun j v hv => World.news_of_block (w := w3.alloc _) (heap_alloc_new w3 _) j v hv) (txs_one [Q]) (by unfold maxLen; omega) (by omega) (by simp; omega) ?_))
                  intro v1 wp hown1 hgrow1 _
                  have hm : SayRel R F x2 v1 (.int .i64 (t : Nat)) (.int .i64 ((n : Int) + 1)) (.int .i64 ((k : Int) + 1)) wp := ⟨k + 1, t, n + 1, acc ++ [Lib.itoa vn], L ++ [Q], by omega, by go_num, rfl, by go_num, Hat.out.num Hch.out Hc.out Hcn.out Hvn.out Hin.out, by rw [List.map_append, HLm.out, List.append_assoc, HQ.out]; rfl, by rw [Hc1.out, if_neg Hc.out, ← Ht.out, Nat.add_zero], by rw [Hc2.out, if_pos Hcn.out, ← Hn.out], txs_push hown1, (HBr3.out.alloc hrz3 _).grown hgrow1 (by simp; omega) (fun q hq => (own_blk Hown3.out q hq).1), by simp; omega, fun p hp => by
                    rcases List.mem_append.1 hp with h | h
                    · exact HLs.out p h
                    · rw [List.mem_singleton.1 h]; exact hQz⟩
                  have Hm := Lib.hid hm
                  obtain ⟨Av1, cv1, rfl, _, _, _, _⟩ := own_form hown1
                  clear hm hown1 hgrow1
                  go_wp2_with fail
                  exact ⟨Hm.out, by simp [intOf]; omega⟩
                · have Hp : Hid (RfPost w (rformat R false) (.returned (.tuple #[.string ⟨#[]⟩, .int .i64 6])) wr) := Lib.hid (by
                    rw [HFm.out, Hat.out.bad Hch.out Hc.out Hcn.out Hvn.out hin]
                    exact ⟨rfl, HB2.out.trans (HBr.out.mono HB2.out.size)⟩)
                  have hin2 : ¬ (-4611686018427387904 ≤ vn ∧ vn ≤ 4611686018427387904) := fun h => hin (decide_eq_true h)
                  by_cases hg : (4611686018427387904 : Int) < vn
                  · clear hin hin2
                    go_wp2_with fail
                    go_ret2
                    exact Hp.out
                  · have hg2 : vn < -4611686018427387904 := by omega
                    clear hin hin2
                    go_wp2_with fail
                    go_ret2
                    exact Hp.out
              have hcN : ((ch.toNat : Int) == 110) = false := by
                rw [beq_eq_false_iff_ne]
                intro h
                have h2 : (110 : UInt8).toNat = 110 := rfl
                exact hc (UInt8.toNat_inj.1 (by omega))
              have h107 : ch = 107 := by
                rcases rforms_says HF.out ch (List.mem_of_getElem? Hch.out) with h | h | h
                · exact absurd h hc
                · exact absurd h Hc.out
                · exact h
              obtain ⟨hs1, hs7⟩ := HSR.out (rforms_k HF.out k (by rw [Hch.out, h107])).1
              obtain ⟨j, hj⟩ : ∃ j : Nat, R.sub = (j : Int) + 1 := ⟨(R.sub - 1).toNat, by omega⟩
              have hj7 : j < 7 := by omega
              have a1d : wr.drew.cell? ⟨w.heap.size, 1, none⟩ = some (.int .i64 ((j : Int) + 1)) := by rw [← hj]; exact a1
              have hkw := kw_at ⟨j, hj7⟩
              simp only at hkw
              rw [← hj] at hkw
              obtain ⟨Q, hQ⟩ : ∃ Q, Q = mkS (kindW R.sub) := ⟨_, rfl⟩
              rw [← hQ] at hkw
              have hQz : Q.size ≤ 1048576 := by
                rw [hQ, mkS_size]
                have := kindW_len R.sub
                omega
              have HQ := Lib.hid hQ
              have Hcn := Lib.hid hc
              have Hownd : Hid (wr.drew.ownsRow x2.heap.size 9 1 (.slice Av L.length cv) L.length (txs L)) := Lib.hid (own_keep Hown.out fun q cs hq => hq)
              have hjI : (j : Int) < 7 := by omega
              have hjr : (0 : Int) ≤ j := by omega
              have Hj := Lib.hid hj
              have Hkw := Lib.hid hkw
              have hbwd : w.heap.size < wr.heap.size := Nat.lt_of_lt_of_le (lt_of_heap Ha2.out) hrz
              clear hc h107 hs1 hs7 hj hkw hQ a1
              go_wp2_with fail
              with_reducible refine g_mixx [(0, 1), (2, 1), (3, 0), (4, 1), (1, 2), (5, 3), (6, 3), (7, 3), (8, 3), (9, 3)] (fun w' => w'.cell? ⟨w.heap.size, 1, none⟩ = some (.int .i64 ((j : Int) + 1))) 0 _ rfl (by kernel_rfl) (by kernel_rfl) ?_ ?_
              · exact a1d
              intro OPS HDr
              simp only [mixX, nthO, consX]
              iterate 2 ((with_reducible refine x_any (v := ?_) ?_ ?_); rotate_left; (rintro _; go_simp; first | done | rfl | (constructor <;> rfl)))
              iterate 1 ((with_reducible refine x_val (v := ?_) ?_ ?_ ?_); rotate_left; (rintro _ hc; go_simp; first | done | rfl | (constructor <;> rfl)); exact a1d)
              iterate 1 ((with_reducible refine x_any (v := ?_) ?_ ?_); rotate_left; (rintro _; go_simp; first | done | rfl | (constructor <;> rfl)))
              with_reducible refine x_one ?_
              refine l_call ?_ ((rkinds_any _).mono ?_)
              · go_simp
              rintro e x4 ⟨rfl, hx4⟩
              refine ⟨_, rfl, ?_⟩
              have hB4 : Below x2.heap.size x2 x4 := by rw [hx4]; exact (below_drewN HBr.out 1).alloc hrz _
              have hK4 : x4.heap[wr.heap.size]? = some (.cells (txs KW).toArray 9 (0, 0)) := by rw [hx4]; exact heap_alloc_new wr.drew _
              have hK4c : x4.cell? ⟨wr.heap.size, j, none⟩ = some (.string Q) := by
                have h2 := (blk_cells hK4).1 j
                rw [List.getElem?_toArray, Hkw.out] at h2
                exact h2
              have a1e : x4.cell? ⟨w.heap.size, 1, none⟩ = some (.int .i64 ((j : Int) + 1)) := by rw [hx4]; exact Cells.alloc _ _ _ _ a1d
              have Hown4 : Hid (x4.ownsRow x2.heap.size 9 1 (.slice Av L.length cv) L.length (txs L)) := Lib.hid (by rw [hx4]; exact Hownd.out.alloc _)
              have HB4 := Lib.hid hB4
              have h4z := hB4.size
              clear hx4 hB4 hK4
              have hgd : (World.drew wr).heap.size = wr.heap.size := rfl
              rw [hgd]
              obtain ⟨gK, hgK⟩ : ∃ gK, gK = wr.heap.size := ⟨_, rfl⟩
              rw [← hgK] at hK4c ⊢
              clear hgK hgd
              have hjw : IntKind.i64.wrap (j : Int) = j := by rw [IntKind.wrap_i64]; omega
              with_reducible refine x_keep a1e ?_
              iterate 3 ((with_reducible refine x_three ?_); (with_reducible refine l_val (v := ?_) (w' := ?_) ?_ ?_); rotate_left 2; (go_simp; first | done | rfl | (constructor <;> rfl)); (with_reducible refine x_last ?_))
              with_reducible refine x_three ?_
              refine wpList_append_own _ rfl (.tmp 82) (.tmp 89) 39 rfl x2.heap.size 9 iS (.string ByteArray.empty) 1 16 Tryd.underlying39 hiS hzS hsS hbS rfl (by omega) (.slice Av L.length cv) L.length (txs L) ?_ (Hown4.out.alloc _) ⟨x4.heap.size, 0, none⟩ 1 1 [.string Q] ?_ rfl (fun j v hv => World.news_of_block (w := x4.alloc _) (heap_alloc_new x4 _) j v hv) (txs_one [Q]) (by unfold maxLen; omega) (by omega) (by simp; omega) ?_
              · simp [Act.eval, Act.put]
              · simp [Act.eval, Act.put]
              intro v1 wp hown1 hgrow1 _
              have hm : SayRel R F x2 v1 (.int .i64 (t : Nat)) (.int .i64 (n : Nat)) (.int .i64 ((k : Int) + 1)) wp := ⟨k + 1, t, n, acc ++ [kindW R.sub], L ++ [Q], by omega, by go_num, rfl, rfl, Hat.out.kind Hch.out Hc.out Hcn.out, by rw [List.map_append, HLm.out, List.append_assoc, HQ.out]; rfl, by rw [Hc1.out, if_neg Hc.out, ← Ht.out, Nat.add_zero], by rw [Hc2.out, if_neg Hcn.out, ← Hn.out, Nat.add_zero], txs_push hown1, (HB4.out.alloc h4z _).grown hgrow1 (by simp; omega) (fun q hq => (own_blk Hown4.out q hq).1), by simp; omega, fun p hp => by
                rcases List.mem_append.1 hp with h | h
                · exact HLs.out p h
                · rw [List.mem_singleton.1 h]; exact hQz⟩
              have Hm := Lib.hid hm
              obtain ⟨Av1, cv1, rfl, _, _, _, _⟩ := own_form hown1
              clear hm hown1 hgrow1
              with_reducible refine x_last ?_
              iterate 1 ((with_reducible refine x_three ?_); (with_reducible refine l_val (v := ?_) (w' := ?_) ?_ ?_); rotate_left 2; (go_simp; first | done | rfl | (constructor <;> rfl)); (with_reducible refine x_last ?_))
              with_reducible refine x_end ?_
              simp only [Act.put, List.setIfInBounds_toArray, List.set_cons_zero, List.set_cons_succ]
              clear a1d a1e hK4c HDr
              go_wp2_with fail
              exact ⟨Hm.out, by simp [intOf]; omega⟩
            · have hkS : ¬ (k : Int) < SF.size := by rw [HSF.out, mkS_size]; omega
              have hse := Hat.out.end_ (by omega : F.says.length ≤ k)
              obtain ⟨A9, c9, h9, hS9⟩ := row_sl Hown.out
              cases h9
              have HS9 := Lib.hid hS9
              have HLm2 : Hid (rformat R false = limP (wrD L)) := Lib.hid (by
                rw [HFm.out, hse, wrD_eq, HLm.out])
              have hL1 : L.length ≤ 100000 := by omega
              clear hlt hse hS9
              go_wp2_with fail
              refine (line_ref _ L _ _ HS9.out HLs.out hL1).mono ?_
              rintro e w5 ⟨rfl, hB5⟩
              have HB5 := Lib.hid (HB2.out.trans ((HBr.out.trans (hB5.mono hrz)).mono HB2.out.size))
              obtain ⟨J, hJ⟩ : ∃ J, J = joinB (wrD L) := ⟨_, rfl⟩
              have HLm3 : Hid (rformat R false = if 65536 < J.length then ([], 13) else (J, 0)) := Lib.hid (by rw [HLm2.out, hJ]; rfl)
              rw [← hJ]
              clear hB5 hJ HLm2
              by_cases hj : J.length ≤ 65536
              · rw [decide_eq_true hj]
                have Hp : Hid (RfPost w (rformat R false) (.returned (.tuple #[.string (mkS J), .int .i64 0])) w5) := Lib.hid (by
                  rw [HLm3.out, if_neg (by omega)]
                  exact ⟨rfl, HB5.out⟩)
                clear hj HLm3
                obtain ⟨Q, hQ⟩ : ∃ Q, Q = mkS J := ⟨_, rfl⟩
                rw [← hQ] at Hp ⊢
                clear hQ
                go_wp2_with fail
                go_ret2
                exact Hp.out
              · rw [decide_eq_false hj]
                have Hp : Hid (RfPost w (rformat R false) (.returned (.tuple #[.string ⟨#[]⟩, .int .i64 13])) w5) := Lib.hid (by
                  rw [HLm3.out, if_pos (by omega)]
                  exact ⟨rfl, HB5.out⟩)
                clear hj HLm3
                obtain ⟨Q, hQ⟩ : ∃ Q, Q = mkS J := ⟨_, rfl⟩
                rw [← hQ]
                clear hQ
                go_wp2_with fail
                go_ret2
                exact Hp.out
      · have h8b : (R.kind != 8) = true := bne_iff_ne.2 h8
        have h8e : (R.kind == 8) = false := beq_eq_false_iff_ne.2 h8
        have hsb : (FS != R.sub) = false := by rw [bne_eq_false_iff_eq]; exact hs.resolve_left h8
        have HSR : Hid (F.kind = 8 → 1 ≤ R.sub ∧ R.sub ≤ 7) := Lib.hid fun h => absurd (by rw [← Hk.out, HFK.out, h]; rfl) h8
        have Hnot : Hid (¬ (R.kind = 8 ∧ ¬ (1 ≤ R.sub ∧ R.sub ≤ 7))) := Lib.hid fun h => h8 h.1
        clear h8 hs
        cases bad with
        | true =>
          have Hfin : Hid (∀ wq, Below x2.heap.size x2 wq → RfPost w (rformat R true) (.returned (.tuple #[.string ⟨#[]⟩, .int .i64 15])) wq) := Lib.hid (fun wq hq => by
            rw [rffind_at Hfi.out Hno.out HM.out, if_neg Hnot.out, if_pos rfl]
            exact ⟨rfl, HB2.out.trans (hq.mono HB2.out.size)⟩)
          go_wp2_with fail
          go_quiet (fail)
          go_wp2_with fail
          go_ret2
          exact Hfin.out _ (below_drewN HB.out _)
        | false =>
          have HFm : Hid (rformat R false = match rsaidL F.says R.texts R.nums R.sub with
            | none => ([], 6)
            | some ws => limP ((cutL 32 F.word ++ ws).map writeW)) := Lib.hid (by
              rw [rffind_at Hfi.out Hno.out HM.out, if_neg Hnot.out, if_neg (by decide)])
          obtain ⟨WF, hWF⟩ : ∃ x, x = mkS F.word := ⟨_, rfl⟩
          obtain ⟨SF, hSF⟩ : ∃ x, x = mkS F.says := ⟨_, rfl⟩
          obtain ⟨cw1, cw2, cw3⟩ := cut_word HF.out
          have hWz : WF.size ≤ 1048576 := by rw [hWF, mkS_size]; omega
          have f2 : wr.cell? ⟨gF, i * 4 + 2, none⟩ = some (.string WF) := by rw [hWF]; exact Hrow.out wr HB.out 2 _ rfl
          have HSF := Lib.hid hSF
          have HWF := Lib.hid hWF
          have Hcw := Lib.hid (And.intro cw2 cw3)
          clear hSF hWF cw1 cw2 cw3
          go_wp2_with fail
          go_quiet (fail)
          go_wp2_with fail
          refine (cut_ref _ WF 32 hWz).mono ?_
          rintro e x3 ⟨Dc, v, rfl, hownc, hB3, hDc⟩
          have hqz : x2.heap.size ≤ (wr.drewN nq).heap.size := hgx
          have HB3 : Hid (Below x2.heap.size x2 x3) := Lib.hid ((below_drewN HB.out nq).trans (hB3.mono hqz))
          have Hownc : Hid (x3.ownsRow x2.heap.size 9 1 v Dc.length (txs Dc)) := Lib.hid (own_base hownc hqz)
          have hDc2 : Dc.map toL = cutL 32 F.word := by rw [hDc, HWF.out, toL_mkS]
          have HDc := Lib.hid hDc2
          have hDcl : Dc.length ≤ 2 := by
            have h1 := congrArg List.length hDc2
            rw [List.length_map] at h1
            have := Hcw.out.1
            omega
          have HDcs : Hid (∀ p ∈ Dc, p.size ≤ 1048576) := Lib.hid (fun p hp => by
            have h1 := Hcw.out.2 (toL p) (by rw [← hDc2]; exact List.mem_map.2 ⟨p, hp, rfl⟩)
            rw [toL_len] at h1
            omega)
          have hx3 := HB3.out.size
          have Hs5 := Lib.hid (rforms_five HF.out)
          obtain ⟨Ac, cc, rfl, _, _, _, _⟩ := own_form hownc
          clear hownc hB3 hDc hDc2 f0 f1 f2 a0 a1 hqz Hnx
          go_wp2_with fail
          go_loopw [8, 9, 10, 11] (fun ov tv nv kv wy => SayRel R F x2 ov tv nv kv wy) (fun _ _ _ kv _ => F.says.length - (intOf kv).toNat)
          case atStart => exact ⟨0, 0, 0, [], Dc, by omega, rfl, rfl, rfl, SaidAt.zero _ _ _ _, by rw [HDc.out, List.append_nil], by simp, by simp, Hownc.out, HB3.out, by omega, HDcs.out⟩
          case round =>
            clear hDcl
            obtain ⟨k, t, n, acc, L, hk, rfl, rfl, rfl, hat, hL, ht, hn, hown, hB, hLl, hLs⟩ := hrel
            have Hat := Lib.hid hat
            have HLm := Lib.hid hL
            have Ht := Lib.hid ht
            have Hn := Lib.hid hn
            have Hown := Lib.hid hown
            have HBr := Lib.hid hB
            have HLs := Lib.hid hLs
            have hrz := hB.size
            have hL7 : L.length ≤ 7 := by have := Hs5.out; omega
            have hk5 : k ≤ 5 := by have := Hs5.out; omega
            have ht5 : t ≤ 5 := by
              rw [ht]
              have h1 := List.count_le_length (a := (116 : UInt8)) (l := F.says.take k)
              rw [List.length_take] at h1
              omega
            have hn5 : n ≤ 5 := by
              rw [hn]
              have h1 := List.count_le_length (a := (110 : UInt8)) (l := F.says.take k)
              rw [List.length_take] at h1
              omega
            have f3 : wr.cell? ⟨gF, i * 4 + 3, none⟩ = some (.string SF) := by rw [HSF.out]; exact Hrow.out wr hB 3 _ rfl
            have har := (hB.block w.heap.size (lt_of_heap Ha2.out)).trans Ha2.out
            have a1 : wr.cell? ⟨w.heap.size, 1, none⟩ = some (.int .i64 R.sub) := (blk_cells har).1 1
            have a2 : wr.cell? ⟨w.heap.size, 2, none⟩ = some (.slice A1 D.length c1) := (blk_cells har).1 2
            have a3 : wr.cell? ⟨w.heap.size, 3, none⟩ = some (.slice A2 NL c2) := (blk_cells har).1 3
            obtain ⟨Av, cv, rfl, _, _, _, _⟩ := own_form hown
            obtain ⟨iS, hiS, hzS, hsS, hbS⟩ := info_parts infoStr1
            clear hat hL ht hn hown hB hLs har
            by_cases hlt : k < F.says.length
            · have hkS : k < SF.size := by rw [HSF.out, mkS_size]; exact hlt
              have hkSI : (k : Int) < SF.size := by omega
              have hkr : (0 : Int) ≤ k := by omega
              obtain ⟨ch, hch⟩ : ∃ ch, ch = F.says.getD k 0 := ⟨_, rfl⟩
              have hcb : SF[k] = ch := (str_byte hkS).trans (by rw [hch, HSF.out, toL_mkS])
              have Hch := Lib.hid (getD_at hlt hch)
              have hc1 := count_take Hch.out 116
              have hc2 := count_take Hch.out 110
              have Hc1 := Lib.hid hc1
              have Hc2 := Lib.hid hc2
              clear hch hc1 hc2
              by_cases hc : ch = 116
              · have hcI : ((ch.toNat : Int) == 116) = true := by rw [hc]; rfl
                have htl : t < D.length := by
                  have h1 := (Hcnt.out F HF.out (by rw [← HFK.out]; exact Hk.out)).1
                  have h2 := count_lt (show F.says[k]? = some 116 by rw [← hc]; exact Hch.out)
                  rw [Ht.out, HDl.out]
                  omega
                have htI : (t : Int) < D.length := by omega
                have htr : (0 : Int) ≤ t := by omega
                obtain ⟨bt, ot, xt, rfl, hxt, gt⟩ := str_at (x := D) HS1.out htl
                have gtr : wr.cell? ⟨bt, ot + t, none⟩ = some (.string xt) := ((HB2.out.trans (HBr.out.mono HB2.out.size)).cell (World.block_lt_of_cell? w _ gt)).trans gt
                have hxs : xt.size ≤ 1048576 := HDs.out xt (List.mem_of_getElem? hxt)
                have Hxt : Hid (R.texts[t]? = some (toL xt)) := Lib.hid (by rw [← HD.out]; exact map_at hxt)
                have Hc := Lib.hid hc
                clear hc hxt gt
                go_wp2_with (first | (at_builtin; refine wpList_append_own _ rfl _ _ 39 rfl x2.heap.size 9 iS (.string ByteArray.empty) 1 16 Tryd.underlying39 hiS hzS hsS hbS rfl (by omega) (.slice Av L.length cv) L.length (txs L) rfl (Hown.out.alloc _) ⟨wr.heap.size, 0, none⟩ 1 1 [.string xt] rfl rfl (fun j v hv => World.news_of_block (w := wr.alloc _) (heap_alloc_new wr _) j v hv) (txs_one [xt]) (by unfold maxLen; omega) (by omega) (by simp; omega) ?_))
                intro v1 wp hown1 hgrow1 _
                have hm : SayRel R F x2 v1 (.int .i64 ((t : Int) + 1)) (.int .i64 (n : Nat)) (.int .i64 ((k : Int) + 1)) wp := ⟨k + 1, t + 1, n, acc ++ [toL xt], L ++ [xt], by omega, by go_num, by go_num, rfl, Hat.out.text Hch.out Hc.out Hxt.out, by rw [List.map_append, HLm.out, List.append_assoc]; rfl, by rw [Hc1.out, if_pos Hc.out, ← Ht.out], by rw [Hc2.out, if_neg (by rw [Hc.out]; decide), ← Hn.out, Nat.add_zero], txs_push hown1, (HBr.out.alloc hrz _).grown hgrow1 (by simp; omega) (fun q hq => (own_blk Hown.out q hq).1), by simp; omega, fun p hp => by
                  rcases List.mem_append.1 hp with h | h
                  · exact HLs.out p h
                  · rw [List.mem_singleton.1 h]; exact hxs⟩
                have Hm := Lib.hid hm
                obtain ⟨Av1, cv1, rfl, _, _, _, _⟩ := own_form hown1
                clear hm hown1 hgrow1
                go_wp2_with fail
                exact ⟨Hm.out, by simp [intOf]; omega⟩
              have hcI : ((ch.toNat : Int) == 116) = false := by
                rw [beq_eq_false_iff_ne]
                intro h
                have h2 : (116 : UInt8).toNat = 116 := rfl
                exact hc (UInt8.toNat_inj.1 (by omega))
              have Hc := Lib.hid hc
              clear hc
              by_cases hc : ch = 110
              · have hcN : ((ch.toNat : Int) == 110) = true := by rw [hc]; rfl
                have hnl : n < R.nums.length := by
                  have h1 := (Hcnt.out F HF.out (by rw [← HFK.out]; exact Hk.out)).2
                  have h2 := count_lt (show F.says[k]? = some 110 by rw [← hc]; exact Hch.out)
                  rw [Hn.out]
                  omega
                have hnL : n < NL := by rw [HNL.out]; exact hnl
                have hnI : (n : Int) < NL := by omega
                have hnr : (0 : Int) ≤ n := by omega
                obtain ⟨bn, on, vn, rfl, hvn, gn⟩ := int_at HS2.out hnl
                have gnr : wr.cell? ⟨bn, on + n, none⟩ = some (.int .i64 vn) := ((HB2.out.trans (HBr.out.mono HB2.out.size)).cell (World.block_lt_of_cell? w _ gn)).trans gn
                have Hvn := Lib.hid hvn
                obtain ⟨hv1, hv2⟩ := Hnum.out vn (List.mem_of_getElem? hvn)
                have Hcn := Lib.hid hc
                clear hc hvn gn
                by_cases hin : inN vn = true
                · have hin2 := of_decide_eq_true hin
                  have hg1 : ¬ (4611686018427387904 : Int) < vn := by omega
                  have hg2 : ¬ vn < -4611686018427387904 := by omega
                  have Hin := Lib.hid hin
                  have HwR := Lib.hid (Hw.out.below (HB2.out.trans (HBr.out.mono HB2.out.size)))
                  have hil := itoa_len hv1 hv2
                  clear hin hin2
                  go_wp2_with fail
                  refine (itoa_call hv1 hv2 HwR.out).mono ?_
                  rintro e w3 ⟨rfl, hB3⟩
                  obtain ⟨Q, hQ⟩ : ∃ Q, Q = mkS (Lib.itoa vn) := ⟨_, rfl⟩
                  rw [← hQ]
                  have hQz : Q.size ≤ 1048576 := by rw [hQ, mkS_size]; omega
                  have HQ := Lib.hid hQ
                  have Hown3 : Hid (w3.ownsRow x2.heap.size 9 1 (.slice Av L.length cv) L.length (txs L)) := Lib.hid (own_keep Hown.out fun q cs hq => (hB3.block q (lt_of_heap hq)).trans hq)
                  have HBr3 := Lib.hid (HBr.out.trans (hB3.mono hrz))
                  have hrz3 := HBr3.out.size
                  clear hQ hB3 hil
                  go_wp2_with (first | (at_builtin; refine wpList_append_own _ rfl _ _ 39 rfl x2.heap.size 9 iS (.string ByteArray.empty) 1 16 Tryd.underlying39 hiS hzS hsS hbS rfl (by omega) (.slice Av L.length cv) L.length (txs L) rfl (Hown3.out.alloc _) ⟨w3.heap.size, 0, none⟩ 1 1 [.string Q] rfl rfl (fun j v hv => World.news_of_block (w := w3.alloc _) (heap_alloc_new w3 _) j v hv) (txs_one [Q]) (by unfold maxLen; omega) (by omega) (by simp; omega) ?_))
                  intro v1 wp hown1 hgrow1 _
                  have hm : SayRel R F x2 v1 (.int .i64 (t : Nat)) (.int .i64 ((n : Int) + 1)) (.int .i64 ((k : Int) + 1)) wp := ⟨k + 1, t, n + 1, acc ++ [Lib.itoa vn], L ++ [Q], by omega, by go_num, rfl, by go_num, Hat.out.num Hch.out Hc.out Hcn.out Hvn.out Hin.out, by rw [List.map_append, HLm.out, List.append_assoc, HQ.out]; rfl, by rw [Hc1.out, if_neg Hc.out, ← Ht.out, Nat.add_zero], by rw [Hc2.out, if_pos Hcn.out, ← Hn.out], txs_push hown1, (HBr3.out.alloc hrz3 _).grown hgrow1 (by simp; omega) (fun q hq => (own_blk Hown3.out q hq).1), by simp; omega, fun p hp => by
                    rcases List.mem_append.1 hp with h | h
                    · exact HLs.out p h
                    · rw [List.mem_singleton.1 h]; exact hQz⟩
                  have Hm := Lib.hid hm
                  obtain ⟨Av1, cv1, rfl, _, _, _, _⟩ := own_form hown1
                  clear hm hown1 hgrow1
                  go_wp2_with fail
                  exact ⟨Hm.out, by simp [intOf]; omega⟩
                · have Hp : Hid (RfPost w (rformat R false) (.returned (.tuple #[.string ⟨#[]⟩, .int .i64 6])) wr) := Lib.hid (by
                    rw [HFm.out, Hat.out.bad Hch.out Hc.out Hcn.out Hvn.out hin]
                    exact ⟨rfl, HB2.out.trans (HBr.out.mono HB2.out.size)⟩)
                  have hin2 : ¬ (-4611686018427387904 ≤ vn ∧ vn ≤ 4611686018427387904) := fun h => hin (decide_eq_true h)
                  by_cases hg : (4611686018427387904 : Int) < vn
                  · clear hin hin2
                    go_wp2_with fail
                    go_ret2
                    exact Hp.out
                  · have hg2 : vn < -4611686018427387904 := by omega
                    clear hin hin2
                    go_wp2_with fail
                    go_ret2
                    exact Hp.out
              have hcN : ((ch.toNat : Int) == 110) = false := by
                rw [beq_eq_false_iff_ne]
                intro h
                have h2 : (110 : UInt8).toNat = 110 := rfl
                exact hc (UInt8.toNat_inj.1 (by omega))
              have h107 : ch = 107 := by
                rcases rforms_says HF.out ch (List.mem_of_getElem? Hch.out) with h | h | h
                · exact absurd h hc
                · exact absurd h Hc.out
                · exact h
              obtain ⟨hs1, hs7⟩ := HSR.out (rforms_k HF.out k (by rw [Hch.out, h107])).1
              obtain ⟨j, hj⟩ : ∃ j : Nat, R.sub = (j : Int) + 1 := ⟨(R.sub - 1).toNat, by omega⟩
              have hj7 : j < 7 := by omega
              have a1d : wr.drew.cell? ⟨w.heap.size, 1, none⟩ = some (.int .i64 ((j : Int) + 1)) := by rw [← hj]; exact a1
              have hkw := kw_at ⟨j, hj7⟩
              simp only at hkw
              rw [← hj] at hkw
              obtain ⟨Q, hQ⟩ : ∃ Q, Q = mkS (kindW R.sub) := ⟨_, rfl⟩
              rw [← hQ] at hkw
              have hQz : Q.size ≤ 1048576 := by
                rw [hQ, mkS_size]
                have := kindW_len R.sub
                omega
              have HQ := Lib.hid hQ
              have Hcn := Lib.hid hc
              have Hownd : Hid (wr.drew.ownsRow x2.heap.size 9 1 (.slice Av L.length cv) L.length (txs L)) := Lib.hid (own_keep Hown.out fun q cs hq => hq)
              have hjI : (j : Int) < 7 := by omega
              have hjr : (0 : Int) ≤ j := by omega
              have Hj := Lib.hid hj
              have Hkw := Lib.hid hkw
              have hbwd : w.heap.size < wr.heap.size := Nat.lt_of_lt_of_le (lt_of_heap Ha2.out) hrz
              clear hc h107 hs1 hs7 hj hkw hQ a1
              go_wp2_with fail
              with_reducible refine g_mixx [(0, 1), (2, 1), (3, 0), (4, 1), (1, 2), (5, 3), (6, 3), (7, 3), (8, 3), (9, 3)] (fun w' => w'.cell? ⟨w.heap.size, 1, none⟩ = some (.int .i64 ((j : Int) + 1))) 0 _ rfl (by kernel_rfl) (by kernel_rfl) ?_ ?_
              · exact a1d
              intro OPS HDr
              simp only [mixX, nthO, consX]
              iterate 2 ((with_reducible refine x_any (v := ?_) ?_ ?_); rotate_left; (rintro _; go_simp; first | done | rfl | (constructor <;> rfl)))
              iterate 1 ((with_reducible refine x_val (v := ?_) ?_ ?_ ?_); rotate_left; (rintro _ hc; go_simp; first | done | rfl | (constructor <;> rfl)); exact a1d)
              iterate 1 ((with_reducible refine x_any (v := ?_) ?_ ?_); rotate_left; (rintro _; go_simp; first | done | rfl | (constructor <;> rfl)))
              with_reducible refine x_one ?_
              refine l_call ?_ ((rkinds_any _).mono ?_)
              · go_simp
              rintro e x4 ⟨rfl, hx4⟩
              refine ⟨_, rfl, ?_⟩
              have hB4 : Below x2.heap.size x2 x4 := by rw [hx4]; exact (below_drewN HBr.out 1).alloc hrz _
              have hK4 : x4.heap[wr.heap.size]? = some (.cells (txs KW).toArray 9 (0, 0)) := by rw [hx4]; exact heap_alloc_new wr.drew _
              have hK4c : x4.cell? ⟨wr.heap.size, j, none⟩ = some (.string Q) := by
                have h2 := (blk_cells hK4).1 j
                rw [List.getElem?_toArray, Hkw.out] at h2
                exact h2
              have a1e : x4.cell? ⟨w.heap.size, 1, none⟩ = some (.int .i64 ((j : Int) + 1)) := by rw [hx4]; exact Cells.alloc _ _ _ _ a1d
              have Hown4 : Hid (x4.ownsRow x2.heap.size 9 1 (.slice Av L.length cv) L.length (txs L)) := Lib.hid (by rw [hx4]; exact Hownd.out.alloc _)
              have HB4 := Lib.hid hB4
              have h4z := hB4.size
              clear hx4 hB4 hK4
              have hgd : (World.drew wr).heap.size = wr.heap.size := rfl
              rw [hgd]
              obtain ⟨gK, hgK⟩ : ∃ gK, gK = wr.heap.size := ⟨_, rfl⟩
              rw [← hgK] at hK4c ⊢
              clear hgK hgd
              have hjw : IntKind.i64.wrap (j : Int) = j := by rw [IntKind.wrap_i64]; omega
              with_reducible refine x_keep a1e ?_
              iterate 3 ((with_reducible refine x_three ?_); (with_reducible refine l_val (v := ?_) (w' := ?_) ?_ ?_); rotate_left 2; (go_simp; first | done | rfl | (constructor <;> rfl)); (with_reducible refine x_last ?_))
              with_reducible refine x_three ?_
              refine wpList_append_own _ rfl (.tmp 82) (.tmp 89) 39 rfl x2.heap.size 9 iS (.string ByteArray.empty) 1 16 Tryd.underlying39 hiS hzS hsS hbS rfl (by omega) (.slice Av L.length cv) L.length (txs L) ?_ (Hown4.out.alloc _) ⟨x4.heap.size, 0, none⟩ 1 1 [.string Q] ?_ rfl (fun j v hv => World.news_of_block (w := x4.alloc _) (heap_alloc_new x4 _) j v hv) (txs_one [Q]) (by unfold maxLen; omega) (by omega) (by simp; omega) ?_
              · simp [Act.eval, Act.put]
              · simp [Act.eval, Act.put]
              intro v1 wp hown1 hgrow1 _
              have hm : SayRel R F x2 v1 (.int .i64 (t : Nat)) (.int .i64 (n : Nat)) (.int .i64 ((k : Int) + 1)) wp := ⟨k + 1, t, n, acc ++ [kindW R.sub], L ++ [Q], by omega, by go_num, rfl, rfl, Hat.out.kind Hch.out Hc.out Hcn.out, by rw [List.map_append, HLm.out, List.append_assoc, HQ.out]; rfl, by rw [Hc1.out, if_neg Hc.out, ← Ht.out, Nat.add_zero], by rw [Hc2.out, if_neg Hcn.out, ← Hn.out, Nat.add_zero], txs_push hown1, (HB4.out.alloc h4z _).grown hgrow1 (by simp; omega) (fun q hq => (own_blk Hown4.out q hq).1), by simp; omega, fun p hp => by
                rcases List.mem_append.1 hp with h | h
                · exact HLs.out p h
                · rw [List.mem_singleton.1 h]; exact hQz⟩
              have Hm := Lib.hid hm
              obtain ⟨Av1, cv1, rfl, _, _, _, _⟩ := own_form hown1
              clear hm hown1 hgrow1
              with_reducible refine x_last ?_
              iterate 1 ((with_reducible refine x_three ?_); (with_reducible refine l_val (v := ?_) (w' := ?_) ?_ ?_); rotate_left 2; (go_simp; first | done | rfl | (constructor <;> rfl)); (with_reducible refine x_last ?_))
              with_reducible refine x_end ?_
              simp only [Act.put, List.setIfInBounds_toArray, List.set_cons_zero, List.set_cons_succ]
              clear a1d a1e hK4c HDr
              go_wp2_with fail
              exact ⟨Hm.out, by simp [intOf]; omega⟩
            · have hkS : ¬ (k : Int) < SF.size := by rw [HSF.out, mkS_size]; omega
              have hse := Hat.out.end_ (by omega : F.says.length ≤ k)
              obtain ⟨A9, c9, h9, hS9⟩ := row_sl Hown.out
              cases h9
              have HS9 := Lib.hid hS9
              have HLm2 : Hid (rformat R false = limP (wrD L)) := Lib.hid (by
                rw [HFm.out, hse, wrD_eq, HLm.out])
              have hL1 : L.length ≤ 100000 := by omega
              clear hlt hse hS9
              go_wp2_with fail
              refine (line_ref _ L _ _ HS9.out HLs.out hL1).mono ?_
              rintro e w5 ⟨rfl, hB5⟩
              have HB5 := Lib.hid (HB2.out.trans ((HBr.out.trans (hB5.mono hrz)).mono HB2.out.size))
              obtain ⟨J, hJ⟩ : ∃ J, J = joinB (wrD L) := ⟨_, rfl⟩
              have HLm3 : Hid (rformat R false = if 65536 < J.length then ([], 13) else (J, 0)) := Lib.hid (by rw [HLm2.out, hJ]; rfl)
              rw [← hJ]
              clear hB5 hJ HLm2
              by_cases hj : J.length ≤ 65536
              · rw [decide_eq_true hj]
                have Hp : Hid (RfPost w (rformat R false) (.returned (.tuple #[.string (mkS J), .int .i64 0])) w5) := Lib.hid (by
                  rw [HLm3.out, if_neg (by omega)]
                  exact ⟨rfl, HB5.out⟩)
                clear hj HLm3
                obtain ⟨Q, hQ⟩ : ∃ Q, Q = mkS J := ⟨_, rfl⟩
                rw [← hQ] at Hp ⊢
                clear hQ
                go_wp2_with fail
                go_ret2
                exact Hp.out
              · rw [decide_eq_false hj]
                have Hp : Hid (RfPost w (rformat R false) (.returned (.tuple #[.string ⟨#[]⟩, .int .i64 13])) w5) := Lib.hid (by
                  rw [HLm3.out, if_pos (by omega)]
                  exact ⟨rfl, HB5.out⟩)
                clear hj HLm3
                obtain ⟨Q, hQ⟩ : ∃ Q, Q = mkS J := ⟨_, rfl⟩
                rw [← hQ]
                clear hQ
                go_wp2_with fail
                go_ret2
                exact Hp.out
    · have hiI : ¬ (i : Int) < 15 := by omega
      have hi15 : i = 15 := by omega
      subst hi15
      have Hfin : Hid (RfPost w (rformat R bad) (.returned (.tuple #[.string ⟨#[]⟩, .int .i64 7])) wr) := Lib.hid (by
        rw [rffind_none Hno.out]
        exact ⟨rfl, HB2.out.trans (HB.out.mono HB2.out.size)⟩)
      go_wp2_with fail
      go_ret2
      exact Hfin.out
end Go.Proofs.YtbmnbhammganfaaDoor
