/-
  New: a network is made of pages and faults.
-/
import Derived.Test.YtpblaclhfcomeaaAddYes
namespace Go.Proofs.Ytpblaclhfcomeaa
open Go.RowKit Go.Maps Go.MuLone

attribute [local go_sem] lt1 lt2 lt3 lt4 lt5 lt6

/-- a slice of pages -/
structure PgAt (w : World) (A : Option Addr) (cap : Nat) (ps : List (ByteArray × List UInt8)) : Prop where
  nil : A = none → ps = [] ∧ cap = 0
  le : ps.length ≤ cap
  big : cap ≤ maxLen
  cells : 0 < ps.length → ∃ b o, A = some ⟨b, o, none⟩ ∧ ∀ i p, ps[i]? = some p → w.cell? ⟨b, o + i * 2, none⟩ = some (.string p.1) ∧ p.1.size ≤ maxLen ∧ p.2.length ≤ 140737488351232 ∧
    ∃ Ai ci, w.cell? ⟨b, o + i * 2 + 1, none⟩ = some (.slice Ai p.2.length ci) ∧ Bs w Ai ci p.2
/-- a slice of faults -/
structure FtAt (w : World) (A : Option Addr) (cap : Nat) (fs : List PFault) : Prop where
  nil : A = none → fs = [] ∧ cap = 0
  le : fs.length ≤ cap
  big : cap ≤ maxLen
  cells : 0 < fs.length → ∃ b o, A = some ⟨b, o, none⟩ ∧ ∀ i f, fs[i]? = some f → f.u.size ≤ maxLen ∧ f.data.length ≤ 140737488351232 ∧ (-9223372036854775808 ≤ f.att ∧ f.att ≤ 9223372036854775807) ∧ (-9223372036854775808 ≤ f.kind ∧ f.kind ≤ 9223372036854775807) ∧
    (-9223372036854775808 ≤ f.n ∧ f.n ≤ 9223372036854775807) ∧
    ∃ Ai ci, Bs w Ai ci f.data ∧ ∀ j, j < 5 → w.cell? ⟨b, o + i * 5 + j, none⟩ = (#[.string f.u, .int .i64 f.att, .int .i64 f.kind, .int .i64 f.n, .slice Ai f.data.length ci] : Array Value)[j]?
theorem PgAt.keep {w w' : World} {A : Option Addr} {cap : Nat} {ps : List (ByteArray × List UInt8)} (h : PgAt w A cap ps) (hc : Cells w w') : PgAt w' A cap ps :=
  ⟨h.nil, h.le, h.big, fun hp => by
    obtain ⟨b, o, rfl, hx⟩ := h.cells hp
    refine ⟨b, o, rfl, fun i p hi => ?_⟩
    obtain ⟨h1, h2, h3, Ai, ci, h4, h5⟩ := hx i p hi
    exact ⟨hc _ _ h1, h2, h3, Ai, ci, hc _ _ h4, h5.keep hc⟩⟩
theorem FtAt.keep {w w' : World} {A : Option Addr} {cap : Nat} {fs : List PFault} (h : FtAt w A cap fs) (hc : Cells w w') : FtAt w' A cap fs :=
  ⟨h.nil, h.le, h.big, fun hp => by
    obtain ⟨b, o, rfl, hx⟩ := h.cells hp
    refine ⟨b, o, rfl, fun i p hi => ?_⟩
    obtain ⟨h1, h2, h3, h3', h3'', Ai, ci, h4, h5⟩ := hx i p hi
    refine ⟨h1, h2, h3, h3', h3'', Ai, ci, h4.keep hc, fun j hj => ?_⟩
    have := h5 j hj
    have hsome : (#[.string p.u, .int .i64 p.att, .int .i64 p.kind, .int .i64 p.n, .slice Ai p.data.length ci] : Array Value)[j]? = some ((#[.string p.u, .int .i64 p.att, .int .i64 p.kind, .int .i64 p.n, .slice Ai p.data.length ci] : Array Value)[j]'(by simpa using hj)) := Array.getElem?_eq_getElem _
    rw [hsome] at this ⊢
    exact hc _ _ this⟩

def emptySt : NetSt := ⟨[], [], []⟩
def addPage (S : NetSt) (p : ByteArray × List UInt8) : Except Int NetSt :=
  if fitsB p.1 = false then .error 13 else if (look S.pages p.1).isSome then .error 3 else .ok { S with pages := put S.pages p.1 p.2 }
def addFault (S : NetSt) (f : PFault) : Except Int NetSt :=
  if fitsB f.u = false then .error 13 else if f.kind < 1 ∨ 7 < f.kind then .error 7 else if f.att < 1 ∨ f.n < 0 then .error 6 else if (look S.faults (f.u, f.att)).isSome then .error 3 else .ok (S.add f)
def many {α : Type} (step : NetSt → α → Except Int NetSt) : NetSt → List α → Except Int NetSt
  | S, [] => .ok S
  | S, a :: l => match step S a with
    | .error c => .error c
    | .ok S' => many step S' l
def newSt (ps : List (ByteArray × List UInt8)) (fs : List PFault) : Except Int NetSt :=
  match many addPage emptySt ps with
  | .error c => .error c
  | .ok S => many addFault S fs
theorem many_snoc {α : Type} (step : NetSt → α → Except Int NetSt) : ∀ (l : List α) (S : NetSt) (a : α), many step S (l ++ [a]) = match many step S l with | .error c => .error c | .ok S' => step S' a
  | [], S, a => by
    simp only [List.nil_append, many]
    cases step S a <;> rfl
  | b :: l, S, a => by
    simp only [List.cons_append, many]
    cases step S b with
    | error c => rfl
    | ok S' => exact many_snoc step l S' a
theorem many_stop {α : Type} (step : NetSt → α → Except Int NetSt) (S S' : NetSt) (l : List α) (k : Nat) (a : α) (c : Int) (h1 : many step S (l.take k) = .ok S') (h2 : l[k]? = some a) (h3 : step S' a = .error c) : many step S l = .error c := by
  have app : ∀ (l1 l2 : List α) (S : NetSt), many step S (l1 ++ l2) = match many step S l1 with | .error c => .error c | .ok S' => many step S' l2 := by
    intro l1
    induction l1 with
    | nil => intro l2 S; rfl
    | cons b l1 ih =>
      intro l2 S
      simp only [List.cons_append, many]
      cases step S b with
      | error c => rfl
      | ok S' => exact ih l2 S'
  have hk : k < l.length := (List.getElem?_eq_some_iff.1 h2).1
  have e : l = l.take k ++ (a :: l.drop (k + 1)) := by
    conv => lhs; rw [← List.take_append_drop k l]
    congr 1
    rw [List.drop_eq_getElem_cons hk]
    congr 1
    exact (List.getElem?_eq_some_iff.1 h2).2
  rw [e, app, h1]
  simp only [many, h3]

theorem NetAt.page_put {w : World} {nb pb fb ab : Nat} {s : Int} {S : NetSt} (h : NetAt w nb pb fb ab s S) (u : ByteArray) (d : List UInt8) (hu : u.size ≤ maxLen) (v : Value) (hv : RPage w v d) :
    ∃ w', (Instr.mapUpdate 70 (.map (some pb)) (.string u) v).run Try.prog w = .ok () w' ∧ NetAt w' nb pb fb ab s { S with pages := put S.pages u d } ∧ Fr [pb] w w' := by
  obtain ⟨o1, h1, T⟩ := h.pages
  obtain ⟨o', hrun, hT⟩ := T.update str_law Try.underlying70 strKey_inj (str_key hu) v
  have hf : Fr [pb] w (ChangeMaps.setBlock w pb o') := Fr.setBlock _ _ _ _ (by simp)
  refine ⟨_, hrun w pb h1, ?_, hf⟩
  have hr : Rows8 w (ChangeMaps.setBlock w pb o') := Rows8.of_fr hf (fun k hk => h.not_row k (by simp at hk; simp [hk]))
  obtain ⟨n1, n2, n3⟩ := h.ne_nb
  obtain ⟨o2, h2, t2⟩ := h.faults
  obtain ⟨o3, h3, t3⟩ := h.asked
  exact ⟨(hf.block _ (lt_of_heap h.blk) (by simpa using n1)).trans h.blk, ⟨o', setBlock_same (lt_of_heap h1), hT (RPage _) d (fun _ _ hh => hh.keep hr) (hv.keep hr)⟩,
    ⟨o2, (hf.block _ (lt_of_heap h2) (by simpa using h.d1.symm)).trans h2, t2.mono fun _ _ hh => hh.keep hr⟩, ⟨o3, (hf.block _ (lt_of_heap h3) (by simpa using h.d2.symm)).trans h3, t3⟩, h.d1, h.d2, h.d3⟩

theorem Fr.below_drewN {B : Nat} {a w : World} (h : Below B a w) (n : Nat) : Below B a (w.drewN n) := ⟨h.os, h.tape, h.output, h.size, h.block⟩

def NewPost (w : World) (ps : List (ByteArray × List UInt8)) (fs : List PFault) (e : Ending) (w' : World) : Prop :=
  Below w.heap.size w w' ∧ ((∃ S nb pb fb ab, newSt ps fs = .ok S ∧ e = .returned (.tuple #[.pointer (some ⟨nb, 0, none⟩), .int .i64 0]) ∧ NetAt w' nb pb fb ab 0 S ∧ w.heap.size ≤ nb ∧ w.heap.size ≤ pb ∧ w.heap.size ≤ fb ∧ w.heap.size ≤ ab) ∨
    (∃ c, newSt ps fs = .error c ∧ c ≠ 0 ∧ e = .returned (.tuple #[.pointer none, .int .i64 c])))

theorem add_why {S : NetSt} {f : PFault} {c : Int} (h : addFault S f = .error c) : AddWhy S f.u f.att f.kind f.n c ∧ c ≠ 0 := by
  unfold addFault at h
  unfold AddWhy
  by_cases h1 : fitsB f.u = false
  · rw [if_pos h1] at h; cases h; exact ⟨.inl ⟨h1, rfl⟩, by decide⟩
  · have h1' : fitsB f.u = true := by simpa using h1
    rw [if_neg h1] at h
    by_cases h2 : f.kind < 1 ∨ 7 < f.kind
    · rw [if_pos h2] at h; cases h
      refine ⟨?_, by decide⟩
      by_cases h3 : f.kind < 1
      · exact .inr (.inl ⟨h1', h3, rfl⟩)
      · exact .inr (.inr (.inl ⟨h1', by omega, by omega, rfl⟩))
    · rw [if_neg h2] at h
      by_cases h3 : f.att < 1 ∨ f.n < 0
      · rw [if_pos h3] at h; cases h
        refine ⟨?_, by decide⟩
        by_cases h4 : f.att < 1
        · exact .inr (.inr (.inr (.inl ⟨h1', by omega, by omega, h4, rfl⟩)))
        · exact .inr (.inr (.inr (.inr (.inl ⟨h1', by omega, by omega, by omega, by omega, rfl⟩))))
      · rw [if_neg h3] at h
        by_cases h4 : (look S.faults (f.u, f.att)).isSome
        · rw [if_pos h4] at h; cases h
          refine ⟨.inr (.inr (.inr (.inr (.inr ⟨h1', by omega, by omega, by omega, by omega, ?_, rfl⟩)))), by decide⟩
          intro hn; rw [hn] at h4; simp at h4
        · rw [if_neg h4] at h; cases h
theorem add_ok {S S' : NetSt} {f : PFault} (h : addFault S f = .ok S') : S' = S.add f ∧ fitsB f.u = true ∧ 1 ≤ f.kind ∧ f.kind ≤ 7 ∧ 1 ≤ f.att ∧ 0 ≤ f.n ∧ look S.faults (f.u, f.att) = none := by
  unfold addFault at h
  by_cases h1 : fitsB f.u = false
  · rw [if_pos h1] at h; cases h
  · have h1' : fitsB f.u = true := by simpa using h1
    rw [if_neg h1] at h
    by_cases h2 : f.kind < 1 ∨ 7 < f.kind
    · rw [if_pos h2] at h; cases h
    · rw [if_neg h2] at h
      by_cases h3 : f.att < 1 ∨ f.n < 0
      · rw [if_pos h3] at h; cases h
      · rw [if_neg h3] at h
        by_cases h4 : (look S.faults (f.u, f.att)).isSome
        · rw [if_pos h4] at h; cases h
        · rw [if_neg h4] at h; cases h
          exact ⟨rfl, h1', by omega, by omega, by omega, by omega, by simpa using h4⟩
/-- round k of the faults -/
def FtRel (w : World) (fs : List PFault) (S0 : NetSt) (i : Value) (wr : World) : Prop :=
  ∃ (k : Nat) (S : NetSt), k ≤ fs.length ∧ i = .int .i64 k ∧ many addFault S0 (fs.take k) = .ok S ∧ NetAt wr (w.heap.size + 1 + 1 + 1) w.heap.size (w.heap.size + 1) (w.heap.size + 1 + 1) 0 S ∧ Below w.heap.size w wr
/-- round k of the pages -/
def PgRel (w : World) (ps : List (ByteArray × List UInt8)) (i : Value) (wr : World) : Prop :=
  ∃ (k : Nat) (S : NetSt), k ≤ ps.length ∧ i = .int .i64 k ∧ many addPage emptySt (ps.take k) = .ok S ∧ NetAt wr (w.heap.size + 1 + 1 + 1) w.heap.size (w.heap.size + 1) (w.heap.size + 1 + 1) 0 S ∧ Below w.heap.size w wr

set_option maxHeartbeats 4000000 in
set_option maxRecDepth 100000 in
theorem new_any (w : World) (ps : List (ByteArray × List UInt8)) (fs : List PFault) (A A2 : Option Addr) (c c2 : Nat) (hp : PgAt w A c ps) (hf : FtAt w A2 c2 fs) :
    Calls Try.prog 8 #[.slice A ps.length c, .slice A2 fs.length c2] w (NewPost w ps fs) := by
  have hmm := @run_makeMap Try.prog
  have hpl : ps.length ≤ 9223372036854775807 := by have h1 := hp.le; have h2 := hp.big; unfold maxLen at h2; omega
  have hfl : fs.length ≤ 9223372036854775807 := by have h1 := hf.le; have h2 := hf.big; unfold maxLen at h2; omega
  have Hp := Lib.hid hp
  have Hf := Lib.hid hf
  clear hp hf
  go_enter Try.func8, Try.ntmps8
  go_wp2
  go_loopw [21] (fun i wr => PgRel w ps i wr) (fun i _ => ps.length - (intOf i).toNat)
  case atStart =>
    have b0 := (Below.refl w.heap.size w).alloc (Nat.le_refl _) (.map #[] 0)
    have b1 := b0.alloc (by simp) (.map #[] 0)
    have b2 := b1.alloc (by simp; omega) (.map #[] 0)
    have b3 := b2.alloc (by simp; omega) (.cells #[.int .i32 0, .int .u32 0, .map (some w.heap.size), .map (some (w.heap.size + 1)), .map (some (w.heap.size + 1 + 1))] 81)
    refine ⟨0, emptySt, Nat.zero_le _, rfl, rfl, ⟨?_, ⟨.map #[] 0, ?_, TMap.made _ _ _ _⟩, ⟨.map #[] 0, ?_, TMap.made _ _ _ _⟩, ⟨.map #[] 0, ?_, TMap.made _ _ _ _⟩, by simp, by omega, by omega⟩, b3⟩
    all_goals (simp only [heap_alloc_if, World.size_alloc]; simp; try omega)
  case round =>
    obtain ⟨k, S, hk, rfl, hS, hN, hB⟩ := hrel
    have HS := Lib.hid hS
    have HN := Lib.hid hN
    have HB := Lib.hid hB
    clear hS hN hB
    by_cases hlt : k < ps.length
    · obtain ⟨b, o, rfl, hx⟩ := Hp.out.cells (by omega)
      obtain ⟨p, hpk⟩ : ∃ p, ps[k]? = some p := ⟨_, List.getElem?_eq_getElem hlt⟩
      obtain ⟨g1, hul, hdl, Ai, ci, g2, hbs⟩ := hx k p hpk
      have g1' := (Cells.of_below HB.out) _ _ g1
      have g2' := (Cells.of_below HB.out) _ _ g2
      have hbl := World.block_lt_of_cell? wr _ g1'
      have Hpk := Lib.hid hpk
      have Hbs := Lib.hid hbs
      clear hpk hbs hx g1 g2
      have hpr : (wr.alloc (.cells #[.string p.1, .slice Ai p.2.length ci] 33)).heap[wr.heap.size]? = some (.cells #[.string p.1, .slice Ai p.2.length ci] 33 (0, 0)) := heap_alloc_new wr _
      have hN1 := HN.out.below ((Below.refl _ _).alloc (Nat.le_refl _) (.cells #[.string p.1, .slice Ai p.2.length ci] 33))
      obtain ⟨pv, is, hL, hlk⟩ := hN1.page_look (u := p.1) hul
      have lq := fun n => hlk ((wr.alloc (.cells #[.string p.1, .slice Ai p.2.length ci] 33)).drewN n) rfl
      have c1 := blk_cells HN.out.blk
      have HL := Lib.hid hL
      have HN1 := Lib.hid hN1
      have Hpr := Lib.hid hpr
      have hu63 : p.1.size ≤ 9223372036854775807 := by unfold maxLen at hul; exact hul
      clear hL hN1 hpr hlk
      have hways : (fitsB p.1 = false ∧ addPage S p = .error 13) ∨ (fitsB p.1 = true ∧ is = true ∧ addPage S p = .error 3) ∨ (fitsB p.1 = true ∧ is = false ∧ addPage S p = .ok { S with pages := put S.pages p.1 p.2 }) := by
        unfold addPage
        cases hfi : fitsB p.1 with
        | false => exact .inl ⟨rfl, rfl⟩
        | true =>
          rcases HL.out with ⟨h1, _, h3⟩ | ⟨y, h1, _, h3⟩
          · exact .inr (.inr ⟨rfl, h3, by simp [h1]⟩)
          · exact .inr (.inl ⟨rfl, h3, by simp [h1]⟩)
      rcases hways with ⟨hf1, hs⟩ | ⟨hf1, rfl, hs⟩ | ⟨hf1, rfl, hs⟩
      · have Hs := Lib.hid hs
        clear hs
        go_wp2_with (first | (go_at_call 30; refine (fits_any _ _ hu63).mono ?_; rintro e w' ⟨rfl, rfl⟩))
        go_ret2
        exact ⟨(HB.out).trans ((Below.refl _ _).alloc HB.out.size _), .inr ⟨13, by unfold newSt; rw [many_stop _ _ _ _ _ _ _ HS.out Hpk.out Hs.out], by decide, rfl⟩⟩
      · have Hs := Lib.hid hs
        clear hs
        go_wp2_with (first | (go_at_call 30; refine (fits_any _ _ hu63).mono ?_; rintro e w' ⟨rfl, rfl⟩))
        go_quiet (fail)
        go_wp2
        go_ret2
        exact ⟨Fr.below_drewN ((HB.out).trans ((Below.refl _ _).alloc HB.out.size _)) _, .inr ⟨3, by unfold newSt; rw [many_stop _ _ _ _ _ _ _ HS.out Hpk.out Hs.out], by decide, rfl⟩⟩
      · have Hs := Lib.hid hs
        clear hs
        go_wp2_with (first | (go_at_call 30; refine (fits_any _ _ hu63).mono ?_; rintro e w' ⟨rfl, rfl⟩))
        go_quiet (fail)
        go_wp2_with fail
        have hNx : NetAt ((wr.alloc (.cells #[.string p.1, .slice Ai p.2.length ci] 33)).drewN nq) _ _ _ _ 0 S := ⟨HN1.out.blk, HN1.out.pages, HN1.out.faults, HN1.out.asked, HN1.out.d1, HN1.out.d2, HN1.out.d3⟩
        have hpx : ((wr.alloc (.cells #[.string p.1, .slice Ai p.2.length ci] 33)).drewN nq).heap[wr.heap.size]? = some (.cells #[.string p.1, .slice Ai p.2.length ci] 33 (0, 0)) := Hpr.out
        have hbx : Below wr.heap.size wr ((wr.alloc (.cells #[.string p.1, .slice Ai p.2.length ci] 33)).drewN nq) := Fr.below_drewN ((Below.refl _ _).alloc (Nat.le_refl _) _) _
        generalize ((wr.alloc (.cells #[.string p.1, .slice Ai p.2.length ci] 33)).drewN nq) = x at *
        have cx := blk_cells hNx.blk
        have px := blk_cells hpx
        have hbsx := (Hbs.out.keep (Cells.of_below HB.out)).keep (Cells.of_below hbx)
        have HNx := Lib.hid hNx
        have Hpx := Lib.hid hpx
        have Hbx := Lib.hid hbx
        have Hbsx := Lib.hid hbsx
        clear hNx hpx hbx hbsx lq c1
        go_region_held3 (fun w' => w'.cell? ⟨w.heap.size + 1 + 1 + 1, 2, none⟩ = some (.map (some w.heap.size)) ∧ (∀ i, w'.cell? ⟨wr.heap.size, i, none⟩ = (#[.string p.1, .slice Ai p.2.length ci] : Array Value)[i]?))
          (first | exact ⟨cx.1 2, px.1⟩ | exact ⟨c3.1 2, p3.1⟩ | exact ⟨c4.1 2, p4.1⟩)
          (first
            | (go_at_call 31; refine (fresh_at p.2 _ _ _ _ rfl hdl (Hbsx.out.keep (Cells.drewN x 1))).mono ?_; rintro e w3 ⟨g3, rfl, hh, hge, hb⟩; have hb3 : Below x.heap.size x w3 := ⟨hb.os, hb.tape, hb.output, hb.size, hb.block⟩; have h3 := HNx.out.below hb3; have hp3 := (hb3.block wr.heap.size (lt_of_heap Hpx.out)).trans Hpx.out; obtain ⟨w4, hr4, h4, F4⟩ := h3.page_put p.1 p.2 hul (.slice (some ⟨g3, 0, none⟩) p.2.length p.2.length) ⟨hdl, g3, rfl, hh⟩; have c3 := blk_cells h3.blk; have p3 := blk_cells hp3; have c4 := blk_cells h4.blk; have hpne : w.heap.size < wr.heap.size := HN.out.lt _ (by simp); have p4 := blk_cells ((F4.block wr.heap.size p3.2.2 (by simp; omega)).trans hp3); have Hb3 := Lib.hid hb3; have H4 := Lib.hid h4; have HF4 := Lib.hid F4; clear h3 hp3 hh hge hb hb3 h4 F4))
        clear c3 p3 c4 p4 cx px hr4
        go_wp2
        go_roundw
        case rel =>
          refine ⟨k + 1, { S with pages := put S.pages p.1 p.2 }, by omega, by go_num, ?_, H4.out, ?_⟩
          · rw [List.take_add_one, Hpk.out]
            simp only [Option.toList_some]
            rw [many_snoc, HS.out]
            exact Hs.out
          · have e1 := HB.out.size
            have e2 := Hbx.out.size
            exact HB.out.trans ((Hbx.out.mono e1).trans ((Hb3.out.mono (by omega)).trans (HF4.out.below (by have := Hb3.out.size; omega) (by simp))))
        case measure => simp [intOf]; omega
    · have hkp : k = ps.length := by omega
      have HS0 : Hid (many addPage emptySt ps = .ok S) := Lib.hid (by have := HS.out; rw [List.take_of_length_le (by omega)] at this; exact this)
      clear hkp
      go_wp2
      go_loopw [52] (fun i wr => FtRel w fs S i wr) (fun i _ => fs.length - (intOf i).toNat)
      case atStart => exact ⟨0, S, Nat.zero_le _, rfl, rfl, HN.out, HB.out⟩
      case round =>
        clear HS HN HB hk hlt
        obtain ⟨j, S1, hj, rfl, hS1, hN, hB⟩ := hrel
        have HS1 := Lib.hid hS1
        have HN := Lib.hid hN
        have HB := Lib.hid hB
        clear hS1 hN hB
        by_cases hlt : j < fs.length
        · obtain ⟨b, o, rfl, hx⟩ := Hf.out.cells (by omega)
          obtain ⟨f, hfj⟩ : ∃ f, fs[j]? = some f := ⟨_, List.getElem?_eq_getElem hlt⟩
          obtain ⟨hul, hdl, hatt, hkd, hn, Ai, ci, hbs, g⟩ := hx j f hfj
          have hc := Cells.of_below HB.out
          have g0 := hc _ _ (g 0 (by omega))
          have g1 := hc _ _ (g 1 (by omega))
          have g2 := hc _ _ (g 2 (by omega))
          have g3 := hc _ _ (g 3 (by omega))
          have g4 := hc _ _ (g 4 (by omega))
          simp at g0
          have hbs1 := (hbs.keep hc).keep (Cells.alloc _ (.cells #[.string f.u, .int .i64 f.att, .int .i64 f.kind, .int .i64 f.n, .slice Ai f.data.length ci] 38))
          have hN1 := HN.out.below ((Below.refl _ _).alloc (Nat.le_refl _) (.cells #[.string f.u, .int .i64 f.att, .int .i64 f.kind, .int .i64 f.n, .slice Ai f.data.length ci] 38))
          have Hfj := Lib.hid hfj
          have Hbs1 := Lib.hid hbs1
          have HN1 := Lib.hid hN1
          clear hfj hbs hbs1 hN1 hx g hc
          cases hs : addFault S1 f with
          | error c =>
            obtain ⟨hwhy, hc0⟩ := add_why hs
            have hcb : (c != 0) = true := by simpa using hc0
            have Hs := Lib.hid hs
            have Hwhy := Lib.hid hwhy
            clear hs hwhy
            go_wp2_with fail
            refine (add_no _ _ _ _ _ S1 f.u f.att f.kind f.n Ai _ ci c HN1.out hul hatt Hwhy.out).mono ?_
            rintro e w5 ⟨rfl, h5, F5⟩
            have F5' := Lib.hid F5
            clear h5 F5
            go_wp2
            go_ret2
            refine ⟨(HB.out.trans ((Below.refl _ _).alloc HB.out.size _)).trans (F5'.out.below (by have := HB.out.size; simp; omega) (by simp)), .inr ⟨c, ?_, hc0, rfl⟩⟩
            unfold newSt
            rw [HS0.out]
            exact many_stop _ _ _ _ _ _ _ HS1.out Hfj.out Hs.out
          | ok S2 =>
            obtain ⟨hS2, q1, q2, q3, q4, q5, q6⟩ := add_ok hs
            have Hs := Lib.hid hs
            have HS2 := Lib.hid hS2
            have Q6 := Lib.hid q6
            have Q1 := Lib.hid q1
            clear hs hS2 q6 q1
            go_wp2_with fail
            refine (add_yes _ _ _ _ _ S1 f.u f.att f.kind f.n Ai f.data ci HN1.out hul hatt Q1.out q2 q3 q4 q5 hn.2 Q6.out Hbs1.out hdl).mono ?_
            rintro e w5 ⟨rfl, h5, F5⟩
            have H5 := Lib.hid h5
            have F5' := Lib.hid F5
            clear h5 F5
            go_wp2
            go_roundw
            case rel =>
              refine ⟨j + 1, S2, by omega, by go_num, ?_, ?_, (HB.out.trans ((Below.refl _ _).alloc HB.out.size _)).trans (F5'.out.below (by have := HB.out.size; simp; omega) (by simp))⟩
              · rw [List.take_add_one, Hfj.out]
                simp only [Option.toList_some]
                rw [many_snoc, HS1.out]
                exact Hs.out
              · rw [HS2.out]; exact H5.out
            case measure => simp [intOf]; omega
        · have hjf : j = fs.length := by omega
          go_wp2
          go_ret2
          refine ⟨HB.out, .inl ⟨S1, _, _, _, _, ?_, rfl, HN.out, by omega, Nat.le_refl _, by omega, by omega⟩⟩
          unfold newSt
          rw [HS0.out]
          have := HS1.out
          rw [List.take_of_length_le (by omega)] at this
          exact this
theorem new_at (w : World) (ps : List (ByteArray × List UInt8)) (fs : List PFault) (A A2 : Option Addr) (c c2 len len2 : Nat) (h1 : len = ps.length) (h2 : len2 = fs.length) (hp : PgAt w A c ps) (hf : FtAt w A2 c2 fs) :
    Calls Try.prog 8 #[.slice A len c, .slice A2 len2 c2] w (NewPost w ps fs) := by
  subst h1 h2
  exact new_any w ps fs A A2 c c2 hp hf
end Go.Proofs.Ytpblaclhfcomeaa
