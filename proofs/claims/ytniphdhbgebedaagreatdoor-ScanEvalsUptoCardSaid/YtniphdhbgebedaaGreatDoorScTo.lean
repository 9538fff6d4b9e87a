/-
  The tokens of a text, one by one.
-/
import Derived.Test.YtniphdhbgebedaaGreatDoorScTp
import Derived.RangeFuncNested
import Derived.RangeFuncBound
import Derived.RangeFuncCalls
import Derived.RangeFuncLeaves
import Derived.RangeFuncFrom
import Derived.WalkKit
import Derived.OwnWalkIn
import Derived.TacticsInMore
import Derived.LoopNIn
import Derived.LoopIn
namespace Go.Proofs.YtniphdhbgebedaaGreatDoor
open Go.RowKit

set_option linter.unusedSimpArgs false

set_option linter.unusedSimpArgs false

attribute [local go_sem] Oper.semAt_some
attribute [local go_sem] lt1 lt2 lt3 lt4 lt5 lt6

/-- what the rounds' side keeps, its blocks apart -/
structure RoundsSide (J : List Tok → World → (Nat → Prop) → Prop) : Prop where
  glob : ∀ {pre W O}, J pre W O → Glob W
  lt : ∀ {pre W O}, J pre W O → ∀ k, O k → k < W.heap.size
  keep : ∀ {pre W W' O}, J pre W O → W'.os = W.os → W'.tape = W.tape → W'.output = W.output → W.heap.size ≤ W'.heap.size → (∀ k, O k → W'.heap[k]? = W.heap[k]?) → J pre W' O
def YdPost (J : List Tok → World → (Nat → Prop) → Prop) (Jx : List Tok → World → Prop) (W : World) (O : Nat → Prop) (p : List Tok) (e : Ending) (W' : World) : Prop :=
  (e = .returned (.bool true) ∧ ∃ O', J p W' O' ∧ FrP O W W' ∧ ∀ k, O' k → O k ∨ W.heap.size ≤ k) ∨ (e = .returned (.bool false) ∧ Jx p W')
def OuRel (J : List Tok → World → (Nat → Prop) → Prop) (s : List UInt8) (N0 : Nat) (wr : World) : Prop :=
  ∃ pre l fuel O, J pre wr O ∧ ¬ O N0 ∧ LexAt wr N0 l ∧ Glob wr ∧ N0 ≠ 0 ∧ pre ++ toksF fuel l = toksL s ∧ l.rest.length ≤ fuel ∧ l.line + l.rest.length ≤ 65537
theorem tksV_at : ∀ {ts : List Tok} {i : Nat} {t : Tok}, ts[i]? = some t → ∀ j, j < 3 → (tksV ts)[i * 3 + j]? = (tkV t)[j]?
  | [], i, t, h, _, _ => by simp at h
  | a :: r, 0, t, h, j, hj => by
    simp at h
    subst h
    rw [tksV, List.getElem?_append_left (by simp [tkV]; omega)]
    simp
  | a :: r, i + 1, t, h, j, hj => by
    rw [tksV, List.getElem?_append_right (by simp [tkV]; omega)]
    rw [show (i + 1) * 3 + j - (tkV a).length = i * 3 + j from by simp [tkV]; omega]
    exact tksV_at (by simpa using h) j hj
theorem lex_rest {w : World} {b : Nat} {l : Lx} (h : LexAt w b l) : restL w b = l.rest.length := by
  unfold restL
  rw [(blk_cells h).1 0]
  simp [lexV, mkS, ByteArray.size]
def TiRel (J : List Tok → World → (Nat → Prop) → Prop) (N0 : Nat) (pre ts : List Tok) (l' : Lx) (A : Option Addr) (c : Nat) (iv : Value) (wr : World) : Prop :=
  ∃ (i : Nat) (O : Nat → Prop), i ≤ ts.length ∧ iv = .int .i64 (i : Nat) ∧ hasB (ts.take i) = false ∧ J (pre ++ ts.take i) wr O ∧ ¬ O N0 ∧ LexAt wr N0 l' ∧ Glob wr ∧ Sl wr A c ts.length 3 (tksV ts) ∧ ∀ a, A = some a → ¬ O a.block
set_option maxRecDepth 100000 in
set_option maxHeartbeats 16000000 in
theorem tokens1_any (n l pb : Nat) (s : List UInt8) (W0 : World) (J : List Tok → World → (Nat → Prop) → Prop) (Jx : List Tok → World → Prop) (O0 : Nat → Prop)
    (hR : RoundsSide J) (hn : 1 ≤ n) (hlen : s.length ≤ 65536) (hg : Glob W0) (hsrc : W0.cell? ⟨pb, 0, none⟩ = some (.string (mkS s))) (h0 : J [] W0 O0)
    (hY : ∀ pre x W O, J pre W O → Glob W → (pre ++ [x]) <+: toksL s → YieldAt Fence.wide (n - 1) Tryz.prog l #[tokA x] W (YdPost J Jx W O (pre ++ [x]))) :
    CallsIn Fence.wide n Tryz.prog 63 #[.func (.yield l) #[] #[], .pointer (some ⟨pb, 0, none⟩)] W0 fun e W' => (∃ v, e = .returned v) ∧ ((∃ O', J (toksL s) W' O') ∨ ∃ pre, pre <+: toksL s ∧ Jx pre W') := by
  obtain ⟨S, hS⟩ : ∃ S, mkS s = S := ⟨_, rfl⟩
  rw [hS] at hsrc
  have hW1 : OuRel J s W0.heap.size (W0.alloc (.cells #[.string S, .int .i64 1, .bool true] 94)) := by
    have hB : Below W0.heap.size W0 (W0.alloc (.cells #[.string S, .int .i64 1, .bool true] 94)) := (Below.refl _ _).alloc (Nat.le_refl _) _
    refine ⟨[], ⟨s, 1, true⟩, s.length, O0, hR.keep h0 hB.os hB.tape hB.output hB.size (fun k hk => hB.block k (hR.lt h0 k hk)), fun h => Nat.lt_irrefl _ (hR.lt h0 _ h), ?_, hg.below hB hg.pos, by have := hg.pos; omega, rfl, Nat.le_refl _, by simp only; omega⟩
    rw [← hS]
    exact heap_alloc_new _ _
  have HW1 := Lib.hid hW1
  have HY := Lib.hid hY
  have HR := Lib.hid hR
  clear hW1 hg h0 hY hR
  refine callsIn_of_wp Tryz.func63 rfl trivial ?_ rfl
  simp only [Tryz.ntmps63, List.size_toArray, List.length_cons, List.length_nil, Nat.reduceAdd, Nat.reduceSub, Array.replicate_succ, Array.replicate_zero, List.push_toArray, List.append_toArray, List.nil_append, List.cons_append]
  gi_wp2
  gi_loopw [17] (fun _ wr => OuRel J s W0.heap.size wr) (fun _ wr => restL wr W0.heap.size)
  case atStart => exact HW1.out
  case round =>
    clear HW1
    obtain ⟨wo, hwo⟩ : ∃ x, x = wr := ⟨_, rfl⟩
    subst hwo
    obtain ⟨pre, lx, fuel, O, hJ, hO, hL, hg, hN, htk, hf, hline⟩ := hrel
    obtain ⟨rest, line, first⟩ := lx
    have k0 : wo.cell? ⟨W0.heap.size, 0, none⟩ = some (.string (mkS rest)) := (blk_cells hL).1 0
    have k1 : wo.cell? ⟨W0.heap.size, 1, none⟩ = some (.int .i64 (line : Nat)) := (blk_cells hL).1 1
    by_cases hr : rest = []
    · subst hr
      have hx : toksF fuel ⟨[], line, first⟩ = [⟨69, [], line⟩] := by cases fuel <;> simp [toksF]
      rw [hx] at htk
      obtain ⟨fn, tmps, assign, body, hy, hRd⟩ := HY.out pre ⟨69, [], line⟩ wo O hJ hg (by rw [htk]; exact List.prefix_refl _)
      unfold tokA at hy
      simp only at hy
      rw [show mkS [] = (⟨#[]⟩ : ByteArray) from rfl] at hy k0
      rw [show (((69 : UInt8).toNat : Nat) : Int) = 69 from rfl] at hy
      have HTk := Lib.hid htk
      have HRd := Lib.hid hRd
      clear hJ hO hL hg htk hf hline hRd hx
      gi_wp2
      refine HRd.out.mono ?_
      rintro e W' (⟨rfl, O', hJ', _, _⟩ | ⟨rfl, hJx⟩)
      · rw [HTk.out] at hJ'
        gi_wp2
        go_end0
        exact ⟨⟨_, rfl⟩, .inl ⟨O', hJ'⟩⟩
      · rw [HTk.out] at hJx
        gi_wp2
        go_end0
        exact ⟨⟨_, rfl⟩, .inr ⟨_, List.prefix_refl _, hJx⟩⟩
    · have hpos : 0 < rest.length := List.length_pos_iff.2 hr
      have e0 : ((mkS rest).toList == []) = false := by rw [toList_toL, toL_mkS]; exact beq_list hr
      obtain ⟨m, rfl⟩ : ∃ m, fuel = m + 1 := ⟨fuel - 1, by simp only at hf; omega⟩
      obtain ⟨ts, l', hnx⟩ : ∃ ts l', Lx.next ⟨rest, line, first⟩ = (ts, l') := ⟨_, _, rfl⟩
      have hfacts := next_facts ⟨rest, line, first⟩ hr
      rw [hnx] at hfacts
      have hstep : toksF (m + 1) ⟨rest, line, first⟩ = if hasB ts = true then cutB ts else ts ++ toksF m l' := by
        rw [toksF, if_neg hr, hnx]
      have hcall := (callsIn_wide (n := n - 1)).2 (next_any wo W0.heap.size ⟨rest, line, first⟩ hL hg (by simp only at hline ⊢; omega) (by simp only at hline ⊢; omega) hr hN)
      rw [hnx] at hcall
      have HL := Lib.hid hL
      have Hg := Lib.hid hg
      have HJ := Lib.hid hJ
      have HO := Lib.hid hO
      have Htk := Lib.hid htk
      have Hstep := Lib.hid hstep
      have Hfacts := Lib.hid hfacts
      have Hcall := Lib.hid hcall
      have Hline := Lib.hid hline
      have Hf := Lib.hid hf
      have hrl : restL wo W0.heap.size = rest.length := lex_rest hL
      have Hrl := Lib.hid hrl
      generalize mkS rest = RS at *
      clear hL hg hJ hO htk hstep hfacts hcall hr hpos hnx hline hf hrl
      gi_wp2
      refine ⟨trivial, Hcall.out.mono ?_⟩
      rintro e y ⟨A, c, rfl, hSl, hL', hF⟩
      simp only at hSl hL' ⊢
      have hkeepO : ∀ k, O k → y.heap[k]? = wo.heap[k]? := fun k hk => hF.block k (HR.out.lt HJ.out k hk) (by simp; rintro rfl; exact HO.out hk)
      have hrel0 : TiRel J W0.heap.size pre ts l' A c (.int .i64 0) y := by
        refine ⟨0, O, Nat.zero_le _, rfl, rfl, ?_, HO.out, hL', Hg.out.fr hF (by simp; exact fun h => hN h.symm), hSl.1, fun a ha h => ?_⟩
        · rw [List.take_zero, List.append_nil]
          exact HR.out.keep HJ.out hF.os hF.tape hF.output hF.size hkeepO
        · have := hSl.2 a ha
          have := HR.out.lt HJ.out _ h
          omega
      have Hrel0 := Lib.hid hrel0
      clear hrel0 hkeepO hSl hL' hF Hcall HL Hg HJ HO k0 k1
      gi_wp2
      gi_loopw [17] (fun iv wi => TiRel J W0.heap.size pre ts l' A c iv wi) (fun iv _ => ts.length - (intOf iv).toNat)
      case atStart => exact Hrel0.out
      case round =>
        clear Hrel0
        obtain ⟨i, Oi, hi, rfl, hnb, hJ, hO, hL, hg, hSl, hA⟩ := hrel
        have HJ := Lib.hid hJ
        have HO := Lib.hid hO
        have HL := Lib.hid hL
        have Hg := Lib.hid hg
        have HSl := Lib.hid hSl
        have HA := Lib.hid hA
        have Hnb := Lib.hid hnb
        clear hJ hO hL hg hSl hA hnb
        have hbig : ts.length ≤ 9223372036854775807 := by
          have h1 := HSl.out.le
          have h2 := HSl.out.big
          unfold maxLen at h2
          omega
        by_cases hlt : i < ts.length
        · have hltI : (i : Int) < ts.length := by omega
          have hwi : wrap64 ((i : Int) + 1) = (i : Int) + 1 := by unfold wrap64; omega
          obtain ⟨x, hx⟩ : ∃ x, ts[i]? = some x := ⟨ts[i], List.getElem?_eq_getElem hlt⟩
          obtain ⟨b, o, rfl, hcs⟩ := HSl.out.cells (by omega)
          have c0 : wr.cell? ⟨b, o + i * 3, none⟩ = some (.int .u8 (x.kind.toNat : Int)) := by rw [hcs _ (by omega), show i * 3 = i * 3 + 0 from rfl, tksV_at hx 0 (by omega)]; rfl
          have c1 : wr.cell? ⟨b, o + i * 3 + 1, none⟩ = some (.string (mkS x.text)) := by rw [Nat.add_assoc, hcs _ (by omega), tksV_at hx 1 (by omega)]; rfl
          have c2 : wr.cell? ⟨b, o + i * 3 + 2, none⟩ = some (.int .i64 (x.line : Nat)) := by rw [Nat.add_assoc, hcs _ (by omega), tksV_at hx 2 (by omega)]; rfl
          have htake : ts.take (i + 1) = ts.take i ++ [x] := take_snoc hx
          have hpre : (pre ++ ts.take i) ++ [x] <+: toksL s := by
            rw [List.append_assoc, ← htake, ← Htk.out, Hstep.out]
            refine (List.prefix_append_right_inj _).2 ?_
            split
            · exact cutB_pre Hnb.out hlt
            · exact (List.take_prefix _ _).trans (List.prefix_append _ _)
          obtain ⟨W2, hW2⟩ : ∃ W2, W2 = wr.alloc (.cells #[.int .u8 (x.kind.toNat : Int), .string (mkS x.text), .int .i64 (x.line : Nat)] 70) := ⟨_, rfl⟩
          have hB2 : Below wr.heap.size wr W2 := by rw [hW2]; exact (Below.refl _ wr).alloc (Nat.le_refl _) _
          have ht2 : W2.heap[wr.heap.size]? = some (.cells #[.int .u8 (x.kind.toNat : Int), .string (mkS x.text), .int .i64 (x.line : Nat)] 70 (0, 0)) := by rw [hW2]; exact heap_alloc_new _ _
          have hJ2 := HR.out.keep HJ.out hB2.os hB2.tape hB2.output hB2.size (fun k hk => hB2.block k (HR.out.lt HJ.out k hk))
          have hg2 := Hg.out.below hB2 Hg.out.pos
          obtain ⟨fn, tmps, assign, body, hy, hRd⟩ := HY.out (pre ++ ts.take i) x W2 Oi hJ2 hg2 hpre
          unfold tokA at hy
          rw [hW2] at hy
          have HRd := Lib.hid hRd
          have HB2 := Lib.hid hB2
          have HT2 := Lib.hid ht2
          have HJ2 := Lib.hid hJ2
          have Hg2 := Lib.hid hg2
          have HW2 := Lib.hid hW2
          have Hx := Lib.hid hx
          have Htake := Lib.hid htake
          have Hpre := Lib.hid hpre
          have hL2 : LexAt W2 W0.heap.size l' := (hB2.block _ (lt_of_heap HL.out)).trans HL.out
          have hSl2 := HSl.out.keep (Cells.of_below hB2)
          have HL2 := Lib.hid hL2
          have HSl2 := Lib.hid hSl2
          clear hRd hB2 ht2 hJ2 hg2 hW2 hx htake hpre hL2 hSl2 hcs
          gi_wp2
          rw [← HW2.out]
          refine HRd.out.mono ?_
          rintro e W' (⟨rfl, O', hJ', hF', hO'⟩ | ⟨rfl, hJx⟩)
          · have hsz2 : wr.heap.size < W2.heap.size := lt_of_heap HT2.out
            have hlt' : ∀ k, Oi k → k < wr.heap.size := HR.out.lt HJ.out
            have hk' : ∀ k, k < W2.heap.size → ¬ Oi k → W'.heap[k]? = W2.heap[k]? := hF'.block
            have ct : W'.cell? ⟨wr.heap.size, 0, none⟩ = some (.int .u8 (x.kind.toNat : Int)) := (blk_cells ((hk' _ hsz2 fun h => Nat.lt_irrefl _ (hlt' _ h)).trans HT2.out)).1 0
            have hN0 := lt_of_heap HL2.out
            have hbb := World.block_lt_of_cell? _ _ c0
            simp only at hbb
            have hOi := HA.out _ rfl
            simp only at hOi
            have hL' : LexAt W' W0.heap.size l' := (hk' _ hN0 HO.out).trans HL2.out
            have hg' : Glob W' := HR.out.glob hJ'
            have hSl' : Sl W' (some ⟨b, o, none⟩) c ts.length 3 (tksV ts) := ⟨HSl2.out.len, HSl2.out.nil, HSl2.out.le, HSl2.out.big, fun h => by
              obtain ⟨b', o', e, h'⟩ := HSl2.out.cells h
              cases e
              exact ⟨b, o, rfl, fun j hj => (World.cell?_of_block (hk' b (by omega) hOi)).trans (h' j hj)⟩⟩
            have hON : ¬ O' W0.heap.size := fun h => (hO' _ h).elim HO.out fun h => by omega
            have hOb : ∀ a, some (⟨b, o, none⟩ : Addr) = some a → ¬ O' a.block := fun a ha h => by
              cases ha
              exact (hO' _ h).elim hOi fun h => by simp only at h; omega
            rw [List.append_assoc, ← Htake.out] at hJ'
            have HJ' := Lib.hid hJ'
            have HL' := Lib.hid hL'
            have Hg' := Lib.hid hg'
            have HSl' := Lib.hid hSl'
            have HON := Lib.hid hON
            have HOb := Lib.hid hOb
            clear hJ' hL' hg' hSl' hON hOb hk' hlt' hF' hO' hOi c0 c1 c2
            by_cases h33 : x.kind = 33
            · have e33 : ((x.kind.toNat : Int) == 33) = true := by rw [h33]; rfl
              have hfin : pre ++ ts.take (i + 1) = toksL s := by
                obtain ⟨q1, q2⟩ := cutB_at Hnb.out Hx.out h33
                rw [← Htk.out, Hstep.out, if_pos q2, q1, Htake.out]
              rw [hfin] at HJ'
              clear hfin h33
              gi_wp2
              refine bodyPost_ret (results_none rfl _ _ _) rfl ?_
              exact ⟨⟨_, rfl⟩, .inl ⟨O', HJ'.out⟩⟩
            · have e33 : ((x.kind.toNat : Int) == 33) = false := beq_eq_false_iff_ne.2 fun e => h33 (UInt8.toNat_inj.1 (by have : (33 : UInt8).toNat = 33 := rfl; omega))
              have hrel' : TiRel J W0.heap.size pre ts l' (some ⟨b, o, none⟩) c (.int .i64 ((i : Int) + 1)) W' := ⟨i + 1, O', by omega, by go_num, hasB_snoc Hnb.out Hx.out h33, HJ'.out, HON.out, HL'.out, Hg'.out, HSl'.out, HOb.out⟩
              have Hrel' := Lib.hid hrel'
              clear hrel' h33
              gi_wp2
              exact ⟨Hrel'.out, by simp [intOf]; omega⟩
          · gi_wp2
            refine bodyPost_ret (results_none rfl _ _ _) rfl ?_
            exact ⟨⟨_, rfl⟩, .inr ⟨_, Hpre.out, hJx⟩⟩
        · have hltI : ¬ (i : Int) < ts.length := by omega
          have hie : i = ts.length := by omega
          have hnb2 : hasB ts = false := by have := Hnb.out; rwa [hie, List.take_length] at this
          have hst : toksF (m + 1) ⟨rest, line, first⟩ = ts ++ toksF m l' := by rw [Hstep.out, hnb2]; rfl
          obtain ⟨f1, f2, _⟩ := Hfacts.out
          have f1 := f1 hnb2
          simp only at f1 f2
          have hou : OuRel J s W0.heap.size wr := by
            refine ⟨pre ++ ts, l', m, Oi, ?_, HO.out, HL.out, Hg.out, hN, ?_, ?_, ?_⟩
            · have := HJ.out; rwa [hie, List.take_length] at this
            · rw [List.append_assoc, ← hst]; exact Htk.out
            · have := Hf.out; omega
            · have := Hline.out; omega
          have hms : restL wr W0.heap.size < restL wo W0.heap.size := by rw [lex_rest HL.out, Hrl.out]; omega
          have HOu := Lib.hid hou
          have HMs := Lib.hid hms
          clear hou hms f1 f2 hst hnb2 hie
          gi_wp2
          exact ⟨HOu.out, HMs.out⟩
end Go.Proofs.YtniphdhbgebedaaGreatDoor
