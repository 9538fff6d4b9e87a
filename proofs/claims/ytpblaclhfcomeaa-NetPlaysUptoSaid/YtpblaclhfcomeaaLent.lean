/-
  What is lent, and whether it was kept; the comparison of two answers.
-/
import Derived.Test.YtpblaclhfcomeaaRising
namespace Go.Proofs.Ytpblaclhfcomeaa
open Go.RowKit Go.Maps

attribute [local go_sem] lt1 lt2 lt3 lt4 lt5 lt6

/-- x, and one byte more behind it, in memory of their own -/
def LentAt (w : World) (B g cap : Nat) (x : List UInt8) : Prop := w.ownsRow B 5 1 (.slice (some ⟨g, 0, none⟩) (x.length + 1) cap) (x.length + 1) (u8s x ++ [.int .u8 201])
def LentPost (x : List UInt8) (w : World) (e : Ending) (w' : World) : Prop :=
  ∃ g cap, e = .returned (.slice (some ⟨g, 0, none⟩) x.length cap) ∧ LentAt w' w.heap.size g cap x ∧ Below w.heap.size w w'
theorem LentAt.bs {w : World} {B g cap : Nat} {x : List UInt8} (h : LentAt w B g cap x) : Bs w (some ⟨g, 0, none⟩) cap x := by
  obtain ⟨_, _, he, _, _, h1, h2⟩ := own_form h
  simp only [Value.slice.injEq] at he
  obtain ⟨rfl, _, rfl⟩ := he
  refine ⟨by simp [u8s], by simp, by omega, h2, fun _ => ⟨g, 0, rfl, fun j hj => ?_⟩⟩
  rw [Nat.zero_add, u8s_at (by omega)]
  refine own_cell h ?_
  rw [List.getElem?_append_left (by rw [u8s_length]; omega), u8s_at (by omega)]
set_option maxHeartbeats 1000000 in
set_option maxRecDepth 100000 in
theorem lent_any (x : List UInt8) (A : Option Addr) (c : Nat) (w : World) (hx : x.length ≤ 1048575) (h1 : Bs w A c x) :
    Calls Try.prog 20 #[.slice A x.length c] w (LentPost x w) := by
  have H1 := Lib.hid h1
  clear h1
  obtain ⟨i0, hi0, hz0, hz1, hz2⟩ := info_parts infoU8
  go_enter Try.func20, Try.ntmps20
  go_wp2_with fail
  refine (bytes_any x A c w (by omega) H1.out).mono ?_
  rintro e z ⟨v, rfl, hv, hby⟩
  obtain ⟨Av, cv, rfl, _, _, hvc, hvm⟩ := own_form hv
  have hownZ : ∀ o', (z.alloc o').ownsRow w.heap.size 5 1 (.slice Av x.length cv) x.length (u8s x) := fun o' => own_keep hv fun g' c' hg' => (Below.heap_alloc z o' g' (lt_of_heap hg')).trans hg'
  have hnw : ∀ j v, [Value.int .u8 201][j]? = some v → (z.alloc (.cells #[.int .u8 201] 5)).cell? ((⟨z.heap.size, 0, none⟩ : Addr).add j) = some v := fun j v hv => World.news_of_block (w := z.alloc _) (heap_alloc_new z _) j v hv
  have hone1 : ∀ v ∈ [Value.int .u8 201], v.oneCell' = true := by
    intro v hv
    simp only [List.mem_cons, List.not_mem_nil, or_false] at hv
    rcases hv with rfl
    rfl
  have hsz := hby.size
  have HownZ := Lib.hid hownZ
  have Hnw := Lib.hid hnw
  have Hone1 := Lib.hid hone1
  have Hby := Lib.hid hby
  have Hv := Lib.hid hv
  clear hownZ hnw hone1 hby hv
  go_wp2_with (first | (at_builtin; refine wpList_append_lies _ rfl _ _ 31 rfl w.heap.size 5 i0 (.int .u8 0) 1 1 Try.underlying31 hi0 hz0 hz1 hz2 rfl (by omega) (.slice Av x.length cv) x.length (u8s x) rfl (HownZ.out _) ⟨z.heap.size, 0, none⟩ 1 1 [.int .u8 201] rfl rfl Hnw.out Hone1.out (by omega) (by simp [maxLen]; omega) (by omega) (by simp; omega) (z.heap.size + 1) (by simp) ?_))
  intro g cap z2 hown hgrow _ _
  have hb2 : Below w.heap.size w z2 := (Hby.out.alloc hsz (.cells #[.int .u8 201] 5)).grown hgrow (by simp; omega) (fun k' hk' => (own_blk Hv.out k' hk').1)
  obtain ⟨_, _, he, _, _, hc1, hc2⟩ := own_form hown
  simp only [Value.slice.injEq] at he
  obtain ⟨rfl, _, rfl⟩ := he
  have hle : x.length ≤ cap := by omega
  have Hown := Lib.hid hown
  have Hb2 := Lib.hid hb2
  clear hown hgrow hb2 hc1 hc2
  go_wp2_with fail
  go_ret
  exact ⟨g, cap, rfl, Hown.out, Hb2.out⟩

set_option maxHeartbeats 1000000 in
set_option maxRecDepth 100000 in
theorem kept_any (x : List UInt8) (B g cap : Nat) (A : Option Addr) (c : Nat) (w : World) (hx : x.length ≤ 1048575) (h1 : LentAt w B g cap x) (h2 : Bs w A c x) :
    Calls Try.prog 22 #[.slice (some ⟨g, 0, none⟩) x.length cap, .slice A x.length c] w fun e w' => e = .returned (.bool true) ∧ ∃ n, w' = w.drewN n := by
  have H1 := Lib.hid h1
  have H2 := Lib.hid h2
  have g0 : w.cell? ⟨g, x.length, none⟩ = some (.int .u8 201) := by
    refine own_cell h1 ?_
    rw [List.getElem?_append_right (by rw [u8s_length]; exact Nat.le_refl _), u8s_length, Nat.sub_self]
    rfl
  obtain ⟨_, _, he, _, _, hc1, hc2⟩ := own_form h1
  simp only [Value.slice.injEq] at he
  obtain ⟨rfl, _, rfl⟩ := he
  clear h1 h2
  go_enter Try.func22, Try.ntmps22
  go_wp2_with fail
  refine (same_any x x _ A _ c w H1.out.bs H2.out).mono ?_
  rintro e w1 ⟨rfl, n, rfl⟩
  rw [show (x == x) = true from BEq.rfl]
  go_wp2_with fail
  go_ret
  exact ⟨rfl, n, rfl⟩

/-- behind i bytes that were written over -/
def WipeRel (x : World) (A : Option Addr) (len : Nat) (iv : Value) (wr : World) : Prop :=
  ∃ i : Nat, i ≤ len ∧ iv = .int .i64 i ∧ Fr (blk A) x wr ∧ ∀ a, A = some a → ∃ cs, wr.heap[a.block]? = some (.cells cs 5 (0, 0)) ∧ cs.size = len
def AnswerPost (w : World) (A : Option Addr) (b : Bool) (e : Ending) (w' : World) : Prop := e = .returned (.bool b) ∧ Fr (blk A) w w'
set_option maxHeartbeats 1000000 in
set_option maxRecDepth 100000 in
theorem answer_any (w : World) (st tk : Int) (la : List UInt8) (A A2 : Option Addr) (c2 : Nat) (h1 : Own w A la) (h2 : Bs w A2 c2 la) (hl : la.length ≤ 140737488351232) :
    Calls Try.prog 18 #[aV st A la.length tk, .agg #[.int .i64 st, .slice A2 la.length c2, .int .i64 tk]] w (AnswerPost w A true) := by
  unfold aV
  have H1 := Lib.hid h1
  have H2 := Lib.hid h2
  clear h1 h2
  go_enter Try.func18, Try.ntmps18
  go_wp2_with fail
  have hb0 : Below w.heap.size w ((w.alloc (.cells #[.int .i64 st, .slice A la.length la.length, .int .i64 tk] 35)).alloc (.cells #[.int .i64 st, .slice A2 la.length c2, .int .i64 tk] 57)) := ((Below.refl _ _).alloc (Nat.le_refl _) _).alloc (by simp) _
  refine (same_any la la _ _ _ _ _ ((H1.out.bs (by omega) (fun _ _ hh => hh)).keep (Cells.of_below hb0)) (H2.out.keep (Cells.of_below hb0))).mono ?_
  rintro e w1 ⟨rfl, n, rfl⟩
  rw [show (la == la) = true from BEq.rfl]
  have hx1 : (((w.alloc (.cells #[.int .i64 st, .slice A la.length la.length, .int .i64 tk] 35)).alloc (.cells #[.int .i64 st, .slice A2 la.length c2, .int .i64 tk] 57)).drewN n).heap[w.heap.size]? = some (.cells #[.int .i64 st, .slice A la.length la.length, .int .i64 tk] 35 (0, 0)) := by
    show (((w.alloc _).alloc _).heap[w.heap.size]?) = _
    rw [Below.heap_alloc _ _ _ (by simp)]
    exact heap_alloc_new w _
  have hx2 : (((w.alloc (.cells #[.int .i64 st, .slice A la.length la.length, .int .i64 tk] 35)).alloc (.cells #[.int .i64 st, .slice A2 la.length c2, .int .i64 tk] 57)).drewN n).heap[w.heap.size + 1]? = some (.cells #[.int .i64 st, .slice A2 la.length c2, .int .i64 tk] 57 (0, 0)) := by
    have := heap_alloc_new (w.alloc (.cells #[.int .i64 st, .slice A la.length la.length, .int .i64 tk] 35)) (.cells #[.int .i64 st, .slice A2 la.length c2, .int .i64 tk] 57)
    simpa using this
  have hbx := Fr.below_drewN hb0 n
  generalize ((w.alloc (.cells #[.int .i64 st, .slice A la.length la.length, .int .i64 tk] 35)).alloc (.cells #[.int .i64 st, .slice A2 la.length c2, .int .i64 tk] 57)).drewN n = x at *
  have Hx1 := Lib.hid hx1
  have Hx2 := Lib.hid hx2
  have Hbx := Lib.hid hbx
  have c1 := blk_cells hx1
  have c2' := blk_cells hx2
  clear hx1 hx2 hb0 hbx
  go_wp2_with fail
  go_loopw [6] (fun iv wr => WipeRel x A la.length iv wr) (fun iv _ => la.length - (intOf iv).toNat)
  case atStart =>
    refine ⟨0, by omega, rfl, Fr.refl _ _, fun a ha => ?_⟩
    rcases H1.out with ⟨h, _⟩ | ⟨g, h, hg⟩
    · rw [h] at ha; cases ha
    · rw [h] at ha
      cases ha
      exact ⟨_, (Hbx.out.block _ (lt_of_heap hg)).trans hg, by simp [u8s]⟩
  case round =>
    obtain ⟨i, hi, rfl, hfr, hA⟩ := hrel
    have hnb : ∀ k, w.heap.size ≤ k → k ∉ blk A := by
      intro k hk hm
      rcases H1.out with ⟨h, _⟩ | ⟨g, h, hg⟩
      · rw [h] at hm; simp [blk] at hm
      · rw [h] at hm
        simp [blk] at hm
        have := lt_of_heap hg
        omega
    have d1 := blk_cells ((hfr.block _ c1.2.2 (hnb _ (Nat.le_refl _))).trans Hx1.out)
    have d2 := blk_cells ((hfr.block _ c2'.2.2 (hnb _ (by omega))).trans Hx2.out)
    have Hfr := Lib.hid hfr
    have HA := Lib.hid hA
    clear hfr hA hnb
    by_cases hlt : i < la.length
    · obtain ⟨g, rfl⟩ : ∃ g, A = some ⟨g, 0, none⟩ := by
        rcases H1.out with ⟨_, h⟩ | ⟨g, h, _⟩
        · rw [h] at hlt; simp at hlt
        · exact ⟨g, h⟩
      obtain ⟨cs, hcs, hsz⟩ := HA.out _ rfl
      have hcs : wr.heap[g]? = some (.cells cs 5 (0, 0)) := hcs
      have hcell : wr.cell? ⟨g, i, none⟩ = some (cs[i]'(by omega)) := by
        rw [(blk_cells hcs).1, Array.getElem?_eq_getElem]
      have hfz := (blk_cells hcs).2.1 i
      have hir : (0 : Int) ≤ i := by omega
      have Hcs := Lib.hid hcs
      clear hcs
      generalize cs[i]'(by omega) = old at *
      go_wp2_with fail
      go_roundw
      case rel =>
        refine ⟨i + 1, by omega, by go_num, Hfr.out.trans (Fr.setCell _ _ _ _ (by simp [blk])), fun a ha => ?_⟩
        cases ha
        exact ⟨_, heap_setCell_at Hcs.out i _, by simpa using hsz⟩
      case measure => simp [intOf]; omega
    · go_wp2_with fail
      go_ret
      exact ⟨rfl, (Fr.of_below Hbx.out _).trans Hfr.out⟩
end Go.Proofs.Ytpblaclhfcomeaa
