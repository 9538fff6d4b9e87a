/-
  Pages and Faults: the arguments as the reference's own types.
-/
import Derived.Test.YtpblaclhfcomeaaTexts
namespace Go.Proofs.Ytpblaclhfcomeaa
open Go.RowKit Go.Maps

attribute [local go_sem] lt1 lt2 lt3 lt4 lt5 lt6

/-- a page's two cells, its bytes lying where they lay in w -/
def CPg (w : World) (c : List Value) (p : ByteArray × List UInt8) : Prop := ∃ Ai ci, c = [.string p.1, .slice Ai p.2.length ci] ∧ Bs w Ai ci p.2 ∧ p.1.size ≤ maxLen ∧ p.2.length ≤ 140737488351232
/-- the first i pages stand in a row of the call's own -/
def CopyRel (w : World) (ps : List (ByteArray × List UInt8)) (v iv : Value) (wr : World) : Prop :=
  ∃ (i : Nat) (cs : List (List Value)), i ≤ ps.length ∧ iv = .int .i64 i ∧ All2 (CPg w) cs (ps.take i) ∧ wr.ownsRow w.heap.size 94 2 v i cs.flatten ∧ Below w.heap.size w wr
def CopyPost (w : World) (ps : List (ByteArray × List UInt8)) (e : Ending) (w' : World) : Prop :=
  ∃ A c, e = .returned (.slice A ps.length c) ∧ PgAt w' A c ps ∧ Below w.heap.size w w'
theorem copied {w w' : World} {B : Nat} {v : Value} {ps : List (ByteArray × List UInt8)} {cs : List (List Value)} (h1 : All2 (CPg w) cs ps) (h2 : w'.ownsRow B 94 2 v ps.length cs.flatten) (hb : Below w.heap.size w w') :
    ∃ A c, v = .slice A ps.length c ∧ PgAt w' A c ps := by
  obtain ⟨A, c, rfl, hn, hA, hnc, hcm⟩ := own_form h2
  refine ⟨A, c, rfl, fun h => ?_, hnc, hcm, fun hp => ?_⟩
  · obtain ⟨e1, e2⟩ := hn h
    exact ⟨List.eq_nil_of_length_eq_zero e1, e2⟩
  · cases A with
    | none => have := (hn rfl).1; omega
    | some a =>
      obtain ⟨g, rfl⟩ := hA a rfl
      refine ⟨g, 0, rfl, fun i p hi => ?_⟩
      obtain ⟨c', hc, Ai, ci, rfl, hbs, hs, hl⟩ := h1.at_ hi
      have hk : ∀ c ∈ cs, c.length = 2 := h1.forall_left fun c p hh => by obtain ⟨_, _, rfl, _⟩ := hh; rfl
      refine ⟨?_, hs, hl, Ai, ci, ?_, hbs.keep (Cells.of_below hb)⟩
      · rw [Nat.zero_add]
        refine own_cell h2 ?_
        rw [show i * 2 = i * 2 + 0 by omega, flat_at hk hc (by omega)]; rfl
      · rw [Nat.zero_add]
        refine own_cell h2 ?_
        rw [flat_at hk hc (by omega)]; rfl

set_option maxHeartbeats 2000000 in
set_option maxRecDepth 100000 in
theorem pages_any (w : World) (ps : List (ByteArray × List UInt8)) (A : Option Addr) (c : Nat) (hp : PgAt w A c ps) (hl : ps.length ≤ 1048576) :
    Calls Try.prog 16 #[.slice A ps.length c] w (CopyPost w ps) := by
  have Hp := Lib.hid hp
  clear hp
  obtain ⟨i0, hi0, hz0, hz1, hz2⟩ := info_parts infoPage2
  go_enter Try.func16, Try.ntmps16
  go_wp2_with fail
  go_loopw [3, 4] (fun v iv wr => CopyRel w ps v iv wr) (fun _ iv _ => ps.length - (intOf iv).toNat)
  case atStart => exact ⟨0, [], by omega, rfl, trivial, World.ownsRow_nil _ _ _ _, Below.refl _ _⟩
  case round =>
    obtain ⟨i, cs, hi, rfl, hcs, hrow, hB⟩ := hrel
    have Hcs := Lib.hid hcs
    have Hrow := Lib.hid hrow
    have HB := Lib.hid hB
    obtain ⟨Av, cv, hv, _⟩ := own_form hrow
    subst hv
    clear hcs hrow hB
    by_cases hlt : i < ps.length
    · obtain ⟨b, o, rfl, hx⟩ := Hp.out.cells (by omega)
      obtain ⟨p, hpi⟩ : ∃ p, ps[i]? = some p := ⟨_, List.getElem?_eq_getElem hlt⟩
      obtain ⟨g1, hul, hdl, Ai, ci, g2, hbs⟩ := hx i p hpi
      have g1 := Cells.of_below HB.out _ _ g1
      have g2 := Cells.of_below HB.out _ _ g2
      have hbl : b < w.heap.size := World.block_lt_of_cell? w _ (hx i p hpi).1
      have hbw := Nat.lt_of_lt_of_le hbl HB.out.size
      have hne : some b ≠ (Value.slice Av i cv).ownBlock := fun e => by
        have := (Hrow.out.lt b e.symm).1
        omega
      have hir : (0 : Int) ≤ i := by omega
      have hil : (i : Int) < ps.length := by omega
      have hsz := HB.out.size
      have hownZ : ∀ o, (wr.alloc o).drew.ownsRow w.heap.size 94 2 (.slice Av i cv) i cs.flatten := fun o => own_keep Hrow.out fun g c hg => (Below.heap_alloc wr o g (lt_of_heap hg)).trans hg
      have hone : ∀ v ∈ [Value.string p.1, .slice Ai p.2.length ci], v.oneCell' = true := by
        intro v hv
        simp only [List.mem_cons, List.not_mem_nil, or_false] at hv
        rcases hv with rfl | rfl <;> rfl
      have hnw : ∀ (o : Obj), o = .cells #[.string p.1, .slice Ai p.2.length ci] 94 → ∀ j v, [Value.string p.1, .slice Ai p.2.length ci][j]? = some v → (wr.alloc o).drew.cell? ((⟨wr.heap.size, 0, none⟩ : Addr).add j) = some v := by
        intro o ho j v hv
        subst ho
        exact World.news_of_block (w := (wr.alloc _).drew) (heap_alloc_new wr _) j v hv
      have ca : ∀ (o' : Obj), (wr.alloc o').drew.cell? ⟨b, o + i * 2, none⟩ = some (.string p.1) := fun o' => (World.cell?_alloc_lt wr o' ⟨b, o + i * 2, none⟩ hbw).trans g1
      have cb : ∀ (o' : Obj), (wr.alloc o').drew.cell? ⟨b, o + i * 2 + 1, none⟩ = some (.slice Ai p.2.length ci) := fun o' => (World.cell?_alloc_lt wr o' ⟨b, o + i * 2 + 1, none⟩ hbw).trans g2
      have Hpi := Lib.hid hpi
      have Hbs := Lib.hid hbs
      have Hown := Lib.hid hownZ
      have Hone := Lib.hid hone
      have Hnw := Lib.hid hnw
      clear hpi hbs hx hownZ hone hnw
      go_wp2_with fail
      go_region_held3 (fun w' => w'.cell? ⟨b, o + i * 2, none⟩ = some (.string p.1) ∧ w'.cell? ⟨b, o + i * 2 + 1, none⟩ = some (.slice Ai p.2.length ci))
        (first | exact ⟨g1, g2⟩ | exact ⟨ca _, cb _⟩ | exact ⟨(hgrow.cell_far ⟨b, o + i * 2, none⟩ (by simp; omega) hne).trans (ca _), (hgrow.cell_far ⟨b, o + i * 2 + 1, none⟩ (by simp; omega) hne).trans (cb _)⟩)
        ((refine step_append_lies _ (by rfl) _ _ 50 (by rfl) w.heap.size 94 i0 (.agg #[.string ⟨#[]⟩, .slice none 0 0]) 2 40 Try.underlying50 hi0 hz0 hz1 hz2 (by rfl) (by omega) (.slice Av i cv) i cs.flatten (by rfl) (Hown.out _) ⟨wr.heap.size, 0, none⟩ 1 1 [.string p.1, .slice Ai p.2.length ci] (by rfl) (by rfl) (Hnw.out _ rfl) Hone.out (by omega) (by simp [maxLen]; omega) (by omega) (by simp; omega) (wr.heap.size + 1) (by simp) ?_; intro g cap z2 hown hgrow hat hlt2))
      have Hrow2 := Lib.hid hown
      have Hg2 := Lib.hid hgrow
      clear hown hgrow hat
      go_wp2_with fail
      go_roundw
      case rel =>
        refine ⟨i + 1, cs ++ [[.string p.1, .slice Ai p.2.length ci]], by omega, by go_num, ?_, ?_, ?_⟩
        · rw [take_snoc Hpi.out]
          exact Hcs.out.append ⟨Ai, ci, rfl, Hbs.out, hul, hdl⟩
        · rw [List.flatten_append]
          simpa using Hrow2.out
        · have h0 := HB.out.alloc HB.out.size (.cells #[.string p.1, .slice Ai p.2.length ci] 94)
          exact Below.grown h0.drew Hg2.out (by simp; omega) fun k hk => (own_blk Hrow.out k hk).1
      case measure => simp [intOf]; omega
    · have hie : i = ps.length := by omega
      subst hie
      go_wp2_with fail
      go_ret
      have h1 := Hcs.out
      rw [List.take_length] at h1
      obtain ⟨A', c', hv, hpg⟩ := copied h1 Hrow.out HB.out
      exact ⟨A', c', by rw [← hv]; rfl, hpg, HB.out⟩

/-- a fault's five cells, its bytes lying where they lay in w -/
def CFt (w : World) (c : List Value) (f : PFault) : Prop := ∃ Ai ci, c = [.string f.u, .int .i64 f.att, .int .i64 f.kind, .int .i64 f.n, .slice Ai f.data.length ci] ∧ Bs w Ai ci f.data ∧ f.u.size ≤ maxLen ∧ f.data.length ≤ 140737488351232 ∧
  (-9223372036854775808 ≤ f.att ∧ f.att ≤ 9223372036854775807) ∧ (-9223372036854775808 ≤ f.kind ∧ f.kind ≤ 9223372036854775807) ∧ (-9223372036854775808 ≤ f.n ∧ f.n ≤ 9223372036854775807)
def FCopyRel (w : World) (fs : List PFault) (v iv : Value) (wr : World) : Prop :=
  ∃ (i : Nat) (cs : List (List Value)), i ≤ fs.length ∧ iv = .int .i64 i ∧ All2 (CFt w) cs (fs.take i) ∧ wr.ownsRow w.heap.size 64 5 v i cs.flatten ∧ Below w.heap.size w wr
def FCopyPost (w : World) (fs : List PFault) (e : Ending) (w' : World) : Prop :=
  ∃ A c, e = .returned (.slice A fs.length c) ∧ FtAt w' A c fs ∧ Below w.heap.size w w'
theorem fcopied {w w' : World} {B : Nat} {v : Value} {fs : List PFault} {cs : List (List Value)} (h1 : All2 (CFt w) cs fs) (h2 : w'.ownsRow B 64 5 v fs.length cs.flatten) (hb : Below w.heap.size w w') :
    ∃ A c, v = .slice A fs.length c ∧ FtAt w' A c fs := by
  obtain ⟨A, c, rfl, hn, hA, hnc, hcm⟩ := own_form h2
  refine ⟨A, c, rfl, fun h => ?_, hnc, hcm, fun hp => ?_⟩
  · obtain ⟨e1, e2⟩ := hn h
    exact ⟨List.eq_nil_of_length_eq_zero e1, e2⟩
  · cases A with
    | none => have := (hn rfl).1; omega
    | some a =>
      obtain ⟨g, rfl⟩ := hA a rfl
      refine ⟨g, 0, rfl, fun i f hi => ?_⟩
      obtain ⟨c', hc, Ai, ci, rfl, hbs, hs, hl, h5, h6, h7⟩ := h1.at_ hi
      have hk : ∀ c ∈ cs, c.length = 5 := h1.forall_left fun c p hh => by obtain ⟨_, _, rfl, _⟩ := hh; rfl
      refine ⟨hs, hl, h5, h6, h7, Ai, ci, hbs.keep (Cells.of_below hb), fun j hj => ?_⟩
      rw [Nat.zero_add]
      have he : (#[Value.string f.u, .int .i64 f.att, .int .i64 f.kind, .int .i64 f.n, .slice Ai f.data.length ci] : Array Value)[j]? = some ((#[Value.string f.u, .int .i64 f.att, .int .i64 f.kind, .int .i64 f.n, .slice Ai f.data.length ci] : Array Value)[j]'(by simpa using hj)) := Array.getElem?_eq_getElem _
      rw [he]
      refine own_cell h2 ?_
      rw [flat_at hk hc hj]
      exact List.getElem?_eq_getElem (l := [Value.string f.u, .int .i64 f.att, .int .i64 f.kind, .int .i64 f.n, .slice Ai f.data.length ci]) (i := j) (by simpa using hj)
set_option maxHeartbeats 2000000 in
set_option maxRecDepth 100000 in
theorem faults_any (w : World) (fs : List PFault) (A : Option Addr) (c : Nat) (hp : FtAt w A c fs) (hl : fs.length ≤ 1048576) :
    Calls Try.prog 17 #[.slice A fs.length c] w (FCopyPost w fs) := by
  have Hp := Lib.hid hp
  clear hp
  obtain ⟨i0, hi0, hz0, hz1, hz2⟩ := info_parts infoFault2
  go_enter Try.func17, Try.ntmps17
  go_wp2_with fail
  go_loopw [3, 4] (fun v iv wr => FCopyRel w fs v iv wr) (fun _ iv _ => fs.length - (intOf iv).toNat)
  case atStart => exact ⟨0, [], by omega, rfl, trivial, World.ownsRow_nil _ _ _ _, Below.refl _ _⟩
  case round =>
    obtain ⟨i, cs, hi, rfl, hcs, hrow, hB⟩ := hrel
    have Hcs := Lib.hid hcs
    have Hrow := Lib.hid hrow
    have HB := Lib.hid hB
    obtain ⟨Av, cv, hv, _⟩ := own_form hrow
    subst hv
    clear hcs hrow hB
    by_cases hlt : i < fs.length
    · obtain ⟨b, o, rfl, hx⟩ := Hp.out.cells (by omega)
      obtain ⟨f, hfi⟩ : ∃ f, fs[i]? = some f := ⟨_, List.getElem?_eq_getElem hlt⟩
      obtain ⟨hul, hdl, hatt, hkd, hn, Ai, ci, hbs, g⟩ := hx i f hfi
      have hc := Cells.of_below HB.out
      have hbl : b < w.heap.size := World.block_lt_of_cell? w _ (g 0 (by omega))
      have g0 := hc _ _ (g 0 (by omega))
      have g1 := hc _ _ (g 1 (by omega))
      have g2 := hc _ _ (g 2 (by omega))
      have g3 := hc _ _ (g 3 (by omega))
      have g4 := hc _ _ (g 4 (by omega))
      simp at g0
      have hbw := Nat.lt_of_lt_of_le hbl HB.out.size
      have hsz := HB.out.size
      have Hfi := Lib.hid hfi
      have Hbs := Lib.hid hbs
      clear hfi hbs hx g hc
      go_wp2_with fail
      refine (fault_any wr f.u f.att f.kind f.n Ai f.data.length ci).mono ?_
      unfold fV
      rintro e w1 ⟨rfl, hb1⟩
      have hrow1 : w1.ownsRow w.heap.size 64 5 (.slice Av i cv) i cs.flatten := own_keep Hrow.out fun g c hg => (hb1.block g (lt_of_heap hg)).trans hg
      have hB1 : Below w.heap.size w w1 := HB.out.trans (hb1.mono hsz)
      clear g0 g1 g2 g3 g4 Hrow HB hb1 hbw hsz
      have hownZ : ∀ o, (w1.alloc o).ownsRow w.heap.size 64 5 (.slice Av i cv) i cs.flatten := fun o => own_keep hrow1 fun g c hg => (Below.heap_alloc w1 o g (lt_of_heap hg)).trans hg
      have hone : ∀ v ∈ [Value.string f.u, .int .i64 f.att, .int .i64 f.kind, .int .i64 f.n, .slice Ai f.data.length ci], v.oneCell' = true := by
        intro v hv
        simp only [List.mem_cons, List.not_mem_nil, or_false] at hv
        rcases hv with rfl | rfl | rfl | rfl | rfl <;> rfl
      have hnw : ∀ j v, [Value.string f.u, .int .i64 f.att, .int .i64 f.kind, .int .i64 f.n, .slice Ai f.data.length ci][j]? = some v → (w1.alloc (.cells #[.string f.u, .int .i64 f.att, .int .i64 f.kind, .int .i64 f.n, .slice Ai f.data.length ci] 64)).cell? ((⟨w1.heap.size, 0, none⟩ : Addr).add j) = some v :=
        fun j v hv => World.news_of_block (w := w1.alloc _) (heap_alloc_new w1 _) j v hv
      have hsz1 := hB1.size
      have Hown := Lib.hid hownZ
      have Hone := Lib.hid hone
      have Hnw := Lib.hid hnw
      have HB1 := Lib.hid hB1
      have Hrow := Lib.hid hrow1
      clear hownZ hone hnw hB1 hrow1
      go_wp2_with (first | (at_builtin; refine wpList_append_lies _ rfl _ _ 52 rfl w.heap.size 64 i0 (.agg #[.string ⟨#[]⟩, .int .i64 0, .int .i64 0, .int .i64 0, .slice none 0 0]) 5 64 Try.underlying52 hi0 hz0 hz1 hz2 rfl (by omega) (.slice Av i cv) i cs.flatten rfl (Hown.out _) ⟨w1.heap.size, 0, none⟩ 1 1 [.string f.u, .int .i64 f.att, .int .i64 f.kind, .int .i64 f.n, .slice Ai f.data.length ci] rfl rfl Hnw.out Hone.out (by omega) (by simp [maxLen]; omega) (by omega) (by simp; omega) (w1.heap.size + 1) (by simp) ?_))
      intro g cap z2 hown hgrow hat hlt2
      have Hrow2 := Lib.hid hown
      have Hg2 := Lib.hid hgrow
      clear hown hgrow hat
      go_wp2_with fail
      go_roundw
      case rel =>
        refine ⟨i + 1, cs ++ [[.string f.u, .int .i64 f.att, .int .i64 f.kind, .int .i64 f.n, .slice Ai f.data.length ci]], by omega, by go_num, ?_, ?_, ?_⟩
        · rw [take_snoc Hfi.out]
          exact Hcs.out.append ⟨Ai, ci, rfl, Hbs.out, hul, hdl, hatt, hkd, hn⟩
        · rw [List.flatten_append]
          simpa using Hrow2.out
        · have h0 := HB1.out.alloc hsz1 (.cells #[.string f.u, .int .i64 f.att, .int .i64 f.kind, .int .i64 f.n, .slice Ai f.data.length ci] 64)
          exact Below.grown h0 Hg2.out (by simp; omega) fun k hk => (own_blk Hrow.out k hk).1
      case measure => simp [intOf]; omega
    · have hie : i = fs.length := by omega
      subst hie
      go_wp2_with fail
      go_ret
      have h1 := Hcs.out
      rw [List.take_length] at h1
      obtain ⟨A', c', hv, hft⟩ := fcopied h1 Hrow.out HB.out
      exact ⟨A', c', by rw [← hv]; rfl, hft, HB.out⟩
end Go.Proofs.Ytpblaclhfcomeaa
