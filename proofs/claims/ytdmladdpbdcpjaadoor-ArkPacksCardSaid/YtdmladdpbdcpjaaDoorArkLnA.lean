/-
  The sum of files: the package's. (Printed by wip/abexp.py.)
  H1 and the sum of a manifest: the package's. (Printed by wip/abexp.py.)
-/
import Derived.Test.YtdmladdpbdcpjaaDoorArkByName
import Derived.Test.YtdmladdpbdcpjaaDoorArkSha
import Derived.Test.YtdmladdpbdcpjaaDoorArkHexes
import Derived.Test.YtdmladdpbdcpjaaDoorArkB64
import Derived.Test.YtdmladdpbdcpjaaDoorArkNamed
import Derived.Lib.AppendStr
import Derived.Test.YtdmladdpbdcpjaaDoorArkRise
namespace Go.Proofs.YtdmladdpbdcpjaaDoor
open Go.RowKit

set_option linter.unusedSimpArgs false

attribute [local go_sem] lt1 lt2 lt3 lt4 lt5 lt6

/-- what stands of a file in a sum -/
def lineOf (p : Fl) : List UInt8 := hexOf (sha p.2) ++ [32, 32] ++ toL p.1 ++ [10]
def linesOf (L : List Fl) : List UInt8 := L.flatMap lineOf
def sumOf (L : List Fl) : List UInt8 := [104, 49, 58] ++ b64 (sha (linesOf L))
theorem sha_len (b : List UInt8) : (sha b).length = 32 := by
  unfold sha
  rw [words_length, blocks_length _ _ rfl]
theorem lineOf_len (p : Fl) : (lineOf p).length = 67 + p.1.size := by
  unfold lineOf
  simp only [List.length_append, hexOf_length, sha_len, toL_len, List.length_cons, List.length_nil]
  omega
theorem linesOf_take {L : List Fl} {i : Nat} (h : i < L.length) : linesOf (L.take (i + 1)) = linesOf (L.take i) ++ lineOf (L.getD i noFl) := by
  rw [take_getD h]
  simp [linesOf]
theorem linesOf_len (L : List Fl) (B : Nat) (h : ∀ p ∈ L, p.1.size ≤ B) : (linesOf L).length ≤ L.length * (67 + B) := by
  induction L with
  | nil => simp [linesOf]
  | cons p L ih =>
    have h1 := ih fun q hq => h q (by simp [hq])
    have h2 := h p (by simp)
    unfold linesOf at h1 ⊢
    rw [List.flatMap_cons, List.length_append, lineOf_len, List.length_cons, Nat.add_mul]
    omega
theorem strCells_toL (s : ByteArray) : Lib.strCells s = u8s (toL s) := by
  simp [Lib.strCells, u8s, toL]
def LnRel (w : World) (L : List Fl) (ov iv : Value) (wr : World) : Prop := ∃ i, i ≤ L.length ∧ iv = .int .i64 (i : Nat) ∧ wr.ownsRow w.heap.size 5 1 ov (linesOf (L.take i)).length (u8s (linesOf (L.take i))) ∧ Below w.heap.size w wr
theorem str_join (a b : ByteArray) : toL (a ++ b) = toL a ++ toL b := by
  unfold toL
  simp
set_option maxHeartbeats 4000000 in
set_option maxRecDepth 100000 in
theorem lines_of (w : World) (A : Option Addr) (c : Nat) (l L : List Fl) (hr : Calls Tryd.prog 48 #[.slice A l.length c] w (BnPost w L)) (hl : L.length ≤ 1024) (hs : ∀ p ∈ L, p.1.size ≤ 1048576) (hd : ∀ p ∈ L, p.2.length ≤ 1048576) :
    Calls Tryd.prog 79 #[.slice A l.length c] w (BytesPost (linesOf L) w) := by
  have Hs := Lib.hid hs
  have Hd := Lib.hid hd
  obtain ⟨i0, hi0, hz0, hz1, hz2⟩ := info_parts infoU8
  clear hs hd
  go_enter Tryd.func79, Tryd.ntmps79
  go_wp2_with fail
  refine hr.mono ?_
  rintro e w1 ⟨v, rfl, hown, hB1⟩
  obtain ⟨Av, cv, rfl, hfa⟩ := hown.files
  have Hfa := Lib.hid hfa
  have HB1 := Lib.hid hB1
  have hsz1 := hB1.size
  clear hown hfa hB1 hr
  go_wp2_with fail
  have Hst : Hid (LnRel w1 L (.slice none 0 0) (.int .i64 0) w1) := Lib.hid ⟨0, by omega, rfl, World.ownsRow_nil _ _ _ _, Below.refl _ _⟩
  go_loopw [3, 9] (fun ov iv wr => LnRel w1 L ov iv wr) (fun _ iv _ => L.length - (intOf iv).toNat)
  case atStart => exact Hst.out
  case round =>
    obtain ⟨i, hi, rfl, hown, hB⟩ := hrel
    have hsz := hB.size
    obtain ⟨Ao, co, rfl, _, _, _, _⟩ := own_form hown
    have hol : (linesOf (L.take i)).length ≤ 1024 * 1048643 := by
      have h1 := linesOf_len (L.take i) 1048576 fun p hp => Hs.out p (List.mem_of_mem_take hp)
      rw [List.length_take] at h1
      exact Nat.le_trans h1 (Nat.mul_le_mul (by omega) (by omega))
    have hir : (0 : Int) ≤ i := by omega
    have Hown := Lib.hid hown
    have HB := Lib.hid hB
    clear hown hB Hst
    by_cases hlt : i < L.length
    · have hlI : (i : Int) < L.length := by omega
      obtain ⟨bb, oo, Ai, ci, hA, g1, g2, hb⟩ := (Hfa.out.below HB.out).at_ hlt
      subst hA
      have hps := Hs.out _ (List.mem_of_getElem? (getD_some hlt))
      have hpd := Hd.out _ (List.mem_of_getElem? (getD_some hlt))
      have Hstep := Lib.hid (linesOf_take hlt)
      generalize L.getD i noFl = p at *
      generalize linesOf (L.take i) = O at *
      have Hb := Lib.hid hb
      obtain ⟨fb, hfb⟩ : ∃ fb, fb = wr.heap.size := ⟨_, rfl⟩
      have f1 : ∀ o : Obj, o = .cells #[.string p.1, .slice Ai p.2.length ci] 46 → (wr.alloc o).cell? ⟨fb, 0, none⟩ = some (.string p.1) := fun o ho => by subst ho; rw [hfb]; exact (blk_cells (heap_alloc_new wr _)).1 0
      have f2 : ∀ o : Obj, o = .cells #[.string p.1, .slice Ai p.2.length ci] 46 → (wr.alloc o).cell? ⟨fb, 1, none⟩ = some (.slice Ai p.2.length ci) := fun o ho => by subst ho; rw [hfb]; exact (blk_cells (heap_alloc_new wr _)).1 1
      have F1 := Lib.hid (f1 _ rfl)
      have F2 := Lib.hid (f2 _ rfl)
      have hBa : Hid (Below wr.heap.size wr (wr.alloc (.cells #[.string p.1, .slice Ai p.2.length ci] 46))) := Lib.hid ((Below.refl _ _).alloc (Nat.le_refl _) _)
      obtain ⟨Hx, hHx⟩ : ∃ Hx : ByteArray, Hx = ⟨(hexOf (sha p.2)).toArray⟩ := ⟨_, rfl⟩
      have HHx := Lib.hid (show toL Hx = hexOf (sha p.2) by rw [hHx]; rfl)
      have hq1 : ¬ 9223372036854775807 < 66 + p.1.size := by omega
      have hq2 : ¬ 9223372036854775807 < 66 + p.1.size + 1 := by omega
      have hq3 : ¬ 9223372036854775807 < 67 + p.1.size := by omega
      have hHs : Hx.size = 64 := by rw [← toL_len, HHx.out, hexOf_length, sha_len]
      clear hb f1 f2
      go_wp2_with fail
      generalize hW : wr.alloc (.cells #[.string p.1, .slice Ai p.2.length ci] 46) = W at *
      rw [← hfb]
      clear hfb hW
      with_reducible refine g_plan [none, none, none, some false, some false, some false, none, none, some false, some false, some true, some true] (fun w' => w'.cell? ⟨fb, 0, none⟩ = some (.string p.1) ∧ w'.cell? ⟨fb, 1, none⟩ = some (.slice Ai p.2.length ci)) (by kernel_rfl) (by kernel_rfl) ?_ ?_
      · exact ⟨F1.out, F2.out⟩
      intro OPS
      simp only [headsOf, tailsOf]
      iterate 5 (with_reducible refine h_val (v := ?_) ?_ ?_; rotate_left; (rintro _ ⟨h1, h2⟩; go_simp; first | done | rfl | (constructor <;> rfl)))
      with_reducible refine h_nil ?_
      with_reducible refine t_one ?_
      refine l_call ?_ ((sha_any _ p.2 Ai ci ?_ hpd).mono ?_)
      · go_simp
      · exact (Hb.out.keep (Cells.of_below hBa.out)).keep fun _ _ h => h
      rintro e w2 ⟨v2, rfl, hown2, hb2⟩
      have hb2' : Below W.heap.size W w2 := ⟨hb2.os, hb2.tape, hb2.output, hb2.size, hb2.block⟩
      obtain ⟨A2, c2, rfl, hbs2⟩ := own_bs hown2
      refine ⟨_, rfl, ?_⟩
      have F3 := Lib.hid (Cells.of_below hb2' _ _ F1.out)
      have F4 := Lib.hid (Cells.of_below hb2' _ _ F2.out)
      refine t_keep ⟨F3.out, F4.out⟩ ?_
      with_reducible refine t_one ?_
      refine l_call ?_ ((hex_any _ (sha p.2) A2 c2 hbs2 (by rw [sha_len]; omega)).mono ?_)
      · go_simp
      rintro e w3 ⟨rfl, hb3⟩
      rw [← hHx]
      clear hHx
      refine ⟨_, rfl, ?_⟩
      have F5 := Lib.hid (Cells.of_below hb3 _ _ F3.out)
      have F6 := Lib.hid (Cells.of_below hb3 _ _ F4.out)
      refine t_keep ⟨F5.out, F6.out⟩ ?_
      have hbW : Below W.heap.size W w3 := hb2'.trans (hb3.mono hb2'.size)
      have hbw3 : Below wr.heap.size wr w3 := hBa.out.trans (hbW.mono hBa.out.size)
      have Hbw3 := Lib.hid hbw3
      have Hown3 : Hid (w3.ownsRow w1.heap.size 5 1 (.slice Ao O.length co) O.length (u8s O)) := Lib.hid (own_keep Hown.out fun g _ hg => (hbw3.block g (lt_of_heap hg)).trans hg)
      clear hb2 hb2' hown2 hbs2 hb3 hbW hbw3
      with_reducible refine t_one ?_
      iterate 1 (with_reducible refine l_val (v := ?_) (w' := ?_) ?_ ?_; rotate_left 2; (go_simp; first | done | rfl | (constructor <;> rfl)))
      refine t_keep ⟨F5.out, F6.out⟩ ?_
      with_reducible refine t_one ?_
      iterate 1 (with_reducible refine l_val (v := ?_) (w' := ?_) ?_ ?_; rotate_left 2; (go_simp; first | done | rfl | (constructor <;> rfl)))
      refine t_keep ⟨F5.out, F6.out⟩ ?_
      with_reducible refine t_one ?_
      iterate 1 (with_reducible refine l_val (v := ?_) (w' := ?_) ?_ ?_; rotate_left 2; (go_simp; first | done | rfl | (constructor <;> rfl)))
      refine t_keep ⟨F5.out, F6.out⟩ ?_
      with_reducible refine t_one ?_
      obtain ⟨S, hS⟩ : ∃ S : ByteArray, S = ((Hx ++ ⟨#[32, 32]⟩) ++ p.1) ++ ⟨#[10]⟩ := ⟨_, rfl⟩
      have hSl : toL S = lineOf p := by rw [hS, str_join, str_join, str_join, HHx.out]; rfl
      have hSs : S.size = 67 + p.1.size := by rw [← toL_len, hSl, lineOf_len]
      refine Lib.wpList_append_own_string _ rfl (.tmp 13) (.tmp 22) 28 9 rfl w1.heap.size 5 i0 Tryd.underlying28 Tryd.underlying9 hi0 hz0 hz1 hz2 (.slice Ao O.length co) O.length (u8s O) ?_ Hown3.out S ?_ (by unfold maxLen; omega) (by omega) (Nat.le_trans hsz Hbw3.out.size) ?_
      · simp [Act.eval, Act.put]
      · rw [hS]; simp [Act.eval, Act.put]
      intro v4 w4 hown4 hgrow4 _
      have Hfin : Hid (LnRel w1 L v4 (.int .i64 ((i : Int) + 1)) w4) := Lib.hid ⟨i + 1, by omega, rfl, by
        rw [Hstep.out, List.length_append, lineOf_len, show u8s (O ++ lineOf p) = u8s O ++ u8s (lineOf p) by simp [u8s], ← hSl, ← strCells_toL, ← hSs]
        exact hown4, (HB.out.trans (Hbw3.out.mono hsz)).grown hgrow4 (Nat.le_trans hsz Hbw3.out.size) (fun k hk => (own_blk Hown.out k hk).1)⟩
      clear hown4 hgrow4
      refine t_last ?_
      with_reducible refine t_one ?_
      iterate 1 (with_reducible refine l_val (v := ?_) (w' := ?_) ?_ ?_; rotate_left 2; (go_simp; first | done | rfl | (constructor <;> rfl)))
      refine t_last ?_
      with_reducible refine t_end ?_
      simp only [Act.put, List.setIfInBounds_toArray, List.set_cons_zero, List.set_cons_succ]
      go_wp2_with fail
      go_roundw
      case rel => exact Hfin.out
      case measure => simp [intOf]; omega
    · obtain rfl : i = L.length := by omega
      rw [List.take_length] at Hown ⊢
      go_wp2_with fail
      go_ret
      exact ⟨_, rfl, own_base Hown.out hsz1, HB1.out.trans (HB.out.mono hsz1)⟩
/-! ### the sum of files -/
def SumPost (L : List Fl) (w : World) (e : Ending) (w' : World) : Prop := e = .returned (.string ⟨(sumOf L).toArray⟩) ∧ Below w.heap.size w w'
set_option maxHeartbeats 1000000 in
theorem sum_of (w : World) (A : Option Addr) (c : Nat) (l L : List Fl) (hr : Calls Tryd.prog 48 #[.slice A l.length c] w (BnPost w L)) (hl : L.length ≤ 1024) (hs : ∀ p ∈ L, p.1.size ≤ 512) (hd : ∀ p ∈ L, p.2.length ≤ 1048576) :
    Calls Tryd.prog 51 #[.slice A l.length c] w (SumPost L w) := by
  have hli := lines_of w A c l L hr hl (fun p hp => by have := hs p hp; omega) hd
  have Hll : Hid ((linesOf L).length ≤ 1048576) := Lib.hid (Nat.le_trans (linesOf_len L 512 hs) (Nat.le_trans (Nat.mul_le_mul_right _ hl) (by omega)))
  clear hs hd hr
  obtain ⟨X, hX⟩ : ∃ X, X = linesOf L := ⟨_, rfl⟩
  rw [← hX] at hli Hll
  have HX := Lib.hid hX
  clear hX
  go_enter Tryd.func51, Tryd.ntmps51
  go_wp2_with fail
  refine hli.mono ?_
  rintro e w1 ⟨v1, rfl, hown1, hb1⟩
  obtain ⟨A1, c1, rfl, hbs1⟩ := own_bs hown1
  have Hb1 := Lib.hid hb1
  have Hbs1 := Lib.hid hbs1
  clear hown1 hb1 hbs1 hli
  go_wp2_with fail
  refine (sha_any w1 X A1 c1 Hbs1.out Hll.out).mono ?_
  rintro e w2 ⟨v2, rfl, hown2, hb2⟩
  obtain ⟨A2, c2, rfl, hbs2⟩ := own_bs hown2
  have Hb2 := Lib.hid (Hb1.out.trans (hb2.mono Hb1.out.size))
  have Hbs2 := Lib.hid hbs2
  clear hown2 hb2 hbs2
  go_wp2_with fail
  refine (base64_any w2 (sha X) A2 c2 Hbs2.out (by rw [sha_len]; omega)).mono ?_
  rintro e w3 ⟨rfl, hb3⟩
  have Hb3 := Lib.hid (Hb2.out.trans (hb3.mono Hb2.out.size))
  have hBs : ¬ 9223372036854775807 < 3 + (ByteArray.mk (b64 (sha X)).toArray).size := by
    have h1 : (ByteArray.mk (b64 (sha X)).toArray).size = (b64 (sha X)).length := by rw [← toL_len]; rfl
    have h2 := b64_length (sha X)
    rw [sha_len] at h2
    omega
  obtain ⟨Bs64, hB64⟩ : ∃ B : ByteArray, B = ⟨(b64 (sha X)).toArray⟩ := ⟨_, rfl⟩
  rw [← hB64] at hBs ⊢
  have HB64 := Lib.hid hB64
  clear hb3 hB64
  go_wp2_with fail
  go_ret
  have hfin : (⟨#[104, 49, 58]⟩ : ByteArray) ++ Bs64 = ⟨(sumOf L).toArray⟩ := toL_inj (by rw [str_join, HB64.out, HX.out]; rfl)
  exact ⟨congrArg (fun s => Ending.returned (.string s)) hfin, Hb3.out⟩
end Go.Proofs.YtdmladdpbdcpjaaDoor
namespace Go.Proofs.YtdmladdpbdcpjaaDoor
open Go.RowKit

set_option linter.unusedSimpArgs false

attribute [local go_sem] lt1 lt2 lt3 lt4 lt5 lt6

/-- what H1 hands back of files whose order is L -/
def H1Post (l L : List Fl) (w : World) (e : Ending) (w' : World) : Prop :=
  e = .returned (.tuple #[.string ⟨(if namesErr [] (namesOf l) = 0 then sumOf L else []).toArray⟩, .int .i64 (namesErr [] (namesOf l) : Nat)]) ∧ Below w.heap.size w w'
set_option maxHeartbeats 1000000 in
theorem h1_of (w : World) (A : Option Addr) (c : Nat) (l L : List Fl) (hf : FlAt w A c l) (hm : MaxL w) (hl : l.length ≤ 1024) (hs : ∀ p ∈ l, p.1.size ≤ 1048576)
    (hr : namesErr [] (namesOf l) = 0 → ∀ w', Below w.heap.size w w' → Calls Tryd.prog 51 #[.slice A l.length c] w' (SumPost L w')) :
    Calls Tryd.prog 15 #[.slice A l.length c] w (H1Post l L w) := by
  have hn := names_any w A c l hf (by omega) hs hm
  have Hr := Lib.hid hr
  unfold NmPost at hn
  clear hf hm hs hr
  obtain ⟨n, hnn⟩ : ∃ n, n = namesErr [] (namesOf l) := ⟨_, rfl⟩
  rw [← hnn] at hn
  have Hn := Lib.hid hnn
  clear hnn
  go_enter Tryd.func15, Tryd.ntmps15
  go_wp2_with fail
  refine hn.mono ?_
  rintro e w1 ⟨rfl, hb1⟩
  have Hb1 := Lib.hid hb1
  clear hn hb1
  by_cases hz : n = 0
  · subst hz
    have hs := Hr.out Hn.out.symm w1 Hb1.out
    unfold SumPost at hs
    go_wp2_with fail
    refine hs.mono ?_
    rintro e w2 ⟨rfl, hb2⟩
    have Hb2 := Lib.hid (Hb1.out.trans (hb2.mono Hb1.out.size))
    clear hs hb2
    go_wp2_with fail
    go_ret2
    exact ⟨by rw [← Hn.out, if_pos rfl]; rfl, Hb2.out⟩
  · have hne : ((n : Int) != 0) = true := by rw [bne_iff_ne]; omega
    have Hz := Lib.hid hz
    clear hz
    go_wp2_with fail
    go_ret2
    exact ⟨by rw [← Hn.out, if_neg Hz.out]; rfl, Hb1.out⟩
/-! ### a manifest's -/
def goMod : ByteArray := ⟨#[103, 111, 46, 109, 111, 100]⟩
theorem FlAt.one {w : World} {A : Option Addr} {c : Nat} {d : List UInt8} (x : ByteArray) (h : Bs w A c d) : FlAt (w.alloc (.cells #[.string x, .slice A d.length c] 46)) (some ⟨w.heap.size, 0, none⟩) 1 [(x, d)] := by
  have hc := blk_cells (heap_alloc_new w (.cells #[.string x, .slice A d.length c] 46))
  refine ⟨by simp, by simp, by simp [maxLen], fun _ => ⟨w.heap.size, 0, rfl, fun i p hi => ?_⟩⟩
  have h0 : i = 0 := by have := (List.getElem?_eq_some_iff.1 hi).1; simpa using this
  subst h0
  simp only [List.getElem?_cons_zero, Option.some.injEq] at hi
  subst hi
  exact ⟨hc.1 0, A, c, hc.1 1, h.keep (Cells.alloc _ _)⟩
set_option maxHeartbeats 1000000 in
theorem manifest_any (w : World) (A : Option Addr) (c : Nat) (d : List UInt8) (hb : Bs w A c d) (hd : d.length ≤ 1048576) :
    Calls Tryd.prog 41 #[.slice A d.length c] w (SumPost [(goMod, d)] w) := by
  have hfl := FlAt.one goMod hb
  have hsum := sum_of _ _ 1 _ [(goMod, d)] (rising_small _ _ _ _ hfl (by simp)) (by simp) (fun p hp => by rw [List.mem_singleton.1 hp]; show goMod.size ≤ 512; decide) (fun p hp => by rw [List.mem_singleton.1 hp]; exact hd)
  have Hp : Hid (∀ w', Below (w.alloc (.cells #[.string goMod, .slice A d.length c] 46)).heap.size (w.alloc (.cells #[.string goMod, .slice A d.length c] 46)) w' → Below w.heap.size w w') := Lib.hid fun w' h => ((Below.refl _ _).alloc (Nat.le_refl _) _).trans (h.mono (by simp))
  unfold SumPost goMod at hsum
  unfold goMod at Hp
  clear hfl
  go_enter Tryd.func41, Tryd.ntmps41
  go_wp2_with fail
  refine hsum.mono ?_
  rintro e w2 ⟨rfl, hb2⟩
  have Hb2 := Lib.hid (Hp.out _ hb2)
  clear hb2 hsum
  go_wp2_with fail
  go_ret
  exact ⟨rfl, Hb2.out⟩
end Go.Proofs.YtdmladdpbdcpjaaDoor
