/-
  The reference network: Get.
-/
import Derived.Test.YtpblaclhfcomeaaCopies
namespace Go.Proofs.Ytpblaclhfcomeaa
open Go.RowKit Go.Maps

attribute [local go_sem] lt1 lt2 lt3 lt4 lt5 lt6

theorem infoStr : (Try.prog.info? 9).map (fun i => (i.zero, i.size, i.bytes)) = some (some (.string ⟨#[]⟩), 1, 16) := by kernel_rfl

/-- the reference's rows lie in w, the bytes that they name in wd -/
structure RefRows (wd w : World) (base rb : Nat) (S : NetSt) (log : List ByteArray) (vp vf vl : Value) : Prop where
  blk : w.heap[rb]? = some (.cells #[vp, vf, vl] 69 (0, 0))
  hb : base ≤ rb
  pages : ∃ cs, All2 (RPg wd) cs S.pages ∧ w.ownsRow base 94 2 vp S.pages.length cs.flatten
  faults : ∃ cs, All2 (RFt wd) cs S.faults ∧ w.ownsRow base 64 5 vf S.faults.length cs.flatten
  lrow : w.ownsRow base 9 1 vl log.length (log.map Value.string)
  sm : ∀ s : ByteArray, s ∈ log → s.size ≤ 1048576
theorem RefAt.rows {w : World} {base rb : Nat} {S : NetSt} {log : List ByteArray} {vp vf vl : Value} (h : RefAt w base rb S log vp vf vl) : RefRows w w base rb S log vp vf vl := ⟨h.blk, h.hb, h.pages, h.faults, h.lrow, h.sm⟩
theorem RefRows.at_ {wd w : World} {base rb : Nat} {S : NetSt} {log : List ByteArray} {vp vf vl : Value} (h : RefRows wd w base rb S log vp vf vl) (hk : U8s wd w) : RefAt w base rb S log vp vf vl := by
  obtain ⟨cs, h1, h2⟩ := h.pages
  obtain ⟨ds, h3, h4⟩ := h.faults
  exact ⟨h.blk, h.hb, ⟨cs, h1.mono fun _ _ hh => hh.keep hk, h2⟩, ⟨ds, h3.mono fun _ _ hh => hh.keep hk, h4⟩, h.lrow, h.sm⟩
theorem RefRows.keep {wd w w' : World} {base rb : Nat} {S : NetSt} {log : List ByteArray} {vp vf vl : Value} (h : RefRows wd w base rb S log vp vf vl) (hk : ∀ (g : Nat) (cs : Array Value) (t : TypeId), RefTy t → w.heap[g]? = some (.cells cs t (0, 0)) → w'.heap[g]? = some (.cells cs t (0, 0))) : RefRows wd w' base rb S log vp vf vl := by
  obtain ⟨cs, h1, h2⟩ := h.pages
  obtain ⟨ds, h3, h4⟩ := h.faults
  exact ⟨hk _ _ _ (.inl rfl) h.blk, h.hb, ⟨cs, h1, own_keep h2 fun g c => hk g c _ (.inr (.inl rfl))⟩, ⟨ds, h3, own_keep h4 fun g c => hk g c _ (.inr (.inr (.inl rfl)))⟩, own_keep h.lrow fun g c => hk g c _ (.inr (.inr (.inr rfl))), h.sm⟩
theorem RefRows.below {wd w w' : World} {base rb : Nat} {S : NetSt} {log : List ByteArray} {vp vf vl : Value} (h : RefRows wd w base rb S log vp vf vl) (hb : Below w.heap.size w w') : RefRows wd w' base rb S log vp vf vl :=
  h.keep fun g _ _ _ hg => (hb.block g (lt_of_heap hg)).trans hg

/-- a URL more in the log -/
theorem log_fin {z z2 : World} {base rb g cap : Nat} {log : List ByteArray} {S0 : NetSt} {vp vf vl : Value} {u : ByteArray} (h0 : RefAt z base rb S0 log vp vf vl)
    (hown : z2.ownsRow base 9 1 (.slice (some ⟨g, 0, none⟩) (log.length + 1) cap) (log.length + 1) (log.map Value.string ++ [.string u])) (hg : z.grownBy z2 vl.ownBlock) (hu : u.size ≤ 1048576) :
    Turned base rb 9 z (z2.setCell ⟨rb, 2, none⟩ (.slice (some ⟨g, 0, none⟩) (log.length + 1) cap)) ∧
      ∀ (wd : World) (S : NetSt), RefRows wd z base rb S log vp vf vl → RefRows wd (z2.setCell ⟨rb, 2, none⟩ (.slice (some ⟨g, 0, none⟩) (log.length + 1) cap)) base rb S (log ++ [u]) vp vf (.slice (some ⟨g, 0, none⟩) (log.length + 1) cap) := by
  obtain ⟨ht, hrb2, hrow2⟩ := grew (i := 2) (nv := .slice (some ⟨g, 0, none⟩) (log.length + 1) cap) (.inr (.inr (.inr rfl))) h0.lrow hg h0.blk h0.hb (by decide)
  refine ⟨ht, fun wd S h => ?_⟩
  obtain ⟨cs, h1, h2⟩ := h.pages
  obtain ⟨ds, h3, h4⟩ := h.faults
  refine ⟨?_, h.hb, ⟨cs, h1, own_keep h2 fun k c => ht.other k c _ (by decide) (by decide)⟩, ⟨ds, h3, own_keep h4 fun k c => ht.other k c _ (by decide) (by decide)⟩, ?_, ?_⟩
  · rw [heap_setCell_at hrb2]
    rfl
  · rw [List.length_append, List.map_append]
    exact own_keep hown hrow2
  · intro s hs
    rcases List.mem_append.1 hs with hs | hs
    · exact h.sm s hs
    · simp at hs
      subst hs
      exact hu

def RGetPost (w : World) (base rb : Nat) (S : NetSt) (log : List ByteArray) (vp vf vl : Value) (u : ByteArray) (e : Ending) (w' : World) : Prop :=
  ∃ vl' A c, FrT base w w' ∧ (∀ (wd : World), RefRows wd w base rb S log vp vf vl → RefRows wd w' base rb S (log ++ [u]) vp vf vl') ∧ e = .returned (.agg #[.int .i64 (ansOf S u).1, .slice A (ansOf S u).2.1.length c, .int .i64 (ansOf S u).2.2]) ∧ Bs w' A c (ansOf S u).2.1

/-- the fault that was found, in a block of its own -/
def FindRel (y : World) (S : NetSt) (u : ByteArray) (k : Nat) (iv : Value) (wr : World) : Prop :=
  ∃ (i : Nat) (a0 a1 a2 a3 a4 : Value), i ≤ S.faults.length ∧ iv = .int .i64 i ∧ Below y.heap.size y wr ∧ wr.heap[y.heap.size]? = some (.cells #[a0, a1, a2, a3, a4] 64 (0, 0)) ∧
    ((NoneOf S i u k ∧ #[a0, a1, a2, a3, a4] = #[.string ⟨#[]⟩, .int .i64 0, .int .i64 0, .int .i64 0, .slice none 0 0]) ∨
      (∃ p ∈ S.faults, p.1 = (u, (k : Int)) ∧ RData wr a4 p.2.data ∧ a0 = .string p.2.u ∧ a1 = .int .i64 p.2.att ∧ a2 = .int .i64 p.2.kind ∧ a3 = .int .i64 p.2.n))

theorem find_done {w : World} {S : NetSt} {u : ByteArray} {k : Nat} {a0 a1 a2 a3 a4 : Value}
    (h : (NoneOf S S.faults.length u k ∧ #[a0, a1, a2, a3, a4] = #[.string ⟨#[]⟩, .int .i64 0, .int .i64 0, .int .i64 0, .slice none 0 0]) ∨
      (∃ p ∈ S.faults, p.1 = (u, (k : Int)) ∧ RData w a4 p.2.data ∧ a0 = .string p.2.u ∧ a1 = .int .i64 p.2.att ∧ a2 = .int .i64 p.2.kind ∧ a3 = .int .i64 p.2.n))
    (hnd : (S.faults.map (·.1)).Nodup) (hfk : ∀ f ∈ S.faults, 1 ≤ f.2.kind ∧ f.2.kind ≤ 7 ∧ 0 ≤ f.2.n ∧ f.2.n ≤ 9223372036854775807)
    (hans : ansOf S u = match look S.faults (u, (k : Int)) with
      | none => ansBase S u
      | some f => kindDo f.kind f.n f.data (look S.pages u).isSome (ansBase S u).1 (ansBase S u).2.1 (ansBase S u).2.2) :
    ∃ us att kd nn d Av cv, #[a0, a1, a2, a3, a4] = #[.string us, .int .i64 att, .int .i64 kd, .int .i64 nn, .slice Av d.length cv] ∧ RData w (.slice Av d.length cv) d ∧ 0 ≤ kd ∧ kd ≤ 7 ∧ (0 : Int) ≤ nn ∧ nn ≤ 9223372036854775807 ∧
      ansOf S u = if kd = 0 then ansBase S u else kindDo kd nn d (look S.pages u).isSome (ansBase S u).1 (ansBase S u).2.1 (ansBase S u).2.2 := by
  rcases h with ⟨hno, hz⟩ | ⟨p, hp, hkey, hd, rfl, rfl, rfl, rfl⟩
  · refine ⟨_, _, 0, 0, [], _, _, hz, ⟨World.ownsRow_nil _ _ _ _, by simp⟩, by omega, by omega, by omega, by omega, ?_⟩
    rw [if_pos rfl, hans, (look_none _ _).2]
    intro hm
    obtain ⟨q, hq, e⟩ := List.mem_map.1 hm
    obtain ⟨j, hj⟩ := List.getElem?_of_mem hq
    exact hno j q (List.getElem?_eq_some_iff.1 hj).1 hj e
  · obtain ⟨h1, h2, h3, h4⟩ := hfk p hp
    obtain ⟨Av, cv, rfl, _⟩ := own_form hd.1
    refine ⟨_, _, _, _, _, _, _, rfl, hd, by omega, by omega, by omega, by omega, ?_⟩
    rw [if_neg (by omega), hans, ← hkey, look_of_mem hnd p hp]

theorem look_first {ν : Type} {u : ByteArray} : ∀ {m : List (ByteArray × ν)} {i : Nat} {p : ByteArray × ν}, m[i]? = some p → p.1 = u → (∀ (j : Nat) q, j < i → m[j]? = some q → q.1 ≠ u) → look m u = some p.2
  | [], i, p, h, _, _ => by simp at h
  | q :: m, 0, p, h, hu, _ => by
    simp at h
    subst h
    rw [look, if_pos hu]
  | q :: m, i + 1, p, h, hu, hf => by
    simp at h
    rw [look, if_neg (hf 0 q (by omega) rfl)]
    exact look_first h hu fun j r hj hr => hf (j + 1) r (by omega) (by simpa using hr)
theorem Bs.take {w : World} {A : Option Addr} {c : Nat} {l : List UInt8} (h : Bs w A c l) (m : Nat) : Bs w A c (l.take m) := by
  have hle := h.le
  refine ⟨by simp [u8s], fun e => ?_, by simp; omega, h.big, fun hp => ?_⟩
  · obtain ⟨h1, h2⟩ := h.nil e
    have : l = [] := List.eq_nil_of_length_eq_zero h1
    subst this
    exact ⟨by simp, h2⟩
  · have hp' : 0 < l.length := by simp at hp; omega
    obtain ⟨b, o, rfl, hx⟩ := h.cells hp'
    refine ⟨b, o, rfl, fun j hj => ?_⟩
    have hj2 : j < m ∧ j < l.length := by simp at hj; omega
    rw [hx j (by omega)]
    simp [u8s, hj2.1]
def PowRel (z : World) (m : Nat) (xv jv : Value) (wr : World) : Prop := ∃ j X : Nat, j ≤ m % 8 ∧ X = 2 ^ j ∧ xv = .int .i64 X ∧ jv = .int .i64 j ∧ wr = z
/-- the answer's three fields, laid into the block of the call's result -/
def three (w x : World) (st : Int) (v : Value) (tk : Int) : World := ((x.setCell ⟨w.heap.size, 0, none⟩ (.int .i64 st)).setCell ⟨w.heap.size, 1, none⟩ v).setCell ⟨w.heap.size, 2, none⟩ (.int .i64 tk)
theorem rget_end {w x : World} {base rb c : Nat} {S : NetSt} {log : List ByteArray} {vp vf vl vl2 : Value} {u : ByteArray} {st tk : Int} {l : List UInt8} {A : Option Addr} (hf : FrT base w x)
    (hrows : ∀ (wd : World), RefRows wd w base rb S log vp vf vl → RefRows wd x base rb S (log ++ [u]) vp vf vl2) (hans : ansOf S u = (st, l, tk)) (hbs : Bs x A c l)
    (hr : x.heap[w.heap.size]? = some (.cells #[.int .i64 0, .slice none 0 0, .int .i64 0] 57 (0, 0))) :
    RGetPost w base rb S log vp vf vl u (.returned (.agg #[.int .i64 st, .slice A l.length c, .int .i64 tk])) (three w x st (.slice A l.length c) tk) ∧
      (three w x st (.slice A l.length c) tk).heap[w.heap.size]? = some (.cells #[.int .i64 st, .slice A l.length c, .int .i64 tk] 57 (0, 0)) := by
  have hs : ∀ (i : Nat) (v : Value) (x : World), Fr [w.heap.size] x (x.setCell ⟨w.heap.size, i, none⟩ v) := fun i v x => Fr.setCell _ _ _ _ (by simp)
  have hfr : Fr [w.heap.size] x (three w x st (.slice A l.length c) tk) := ((hs 0 _ _).trans (hs 1 _ _)).trans (hs 2 _ _)
  have hce : (three w x st (.slice A l.length c) tk).heap[w.heap.size]? = some (.cells #[.int .i64 st, .slice A l.length c, .int .i64 tk] 57 (0, 0)) := by
    unfold three
    rw [heap_setCell_at (heap_setCell_at (heap_setCell_at hr 0 _) 1 _) 2 _]
    rfl
  have hf2 : FrT base w (three w x st (.slice A l.length c) tk) := by
    refine ⟨hfr.os.trans hf.os, hfr.tape.trans hf.tape, hfr.output.trans hf.output, Nat.le_trans hf.size hfr.size, fun k hk hn => (hfr.block k (Nat.lt_of_lt_of_le hk hf.size) ?_).trans (hf.block k hk hn)⟩
    simp only [List.mem_singleton]
    omega
  refine ⟨⟨vl2, A, c, hf2, fun wd h => (hrows wd h).keep fun g cs t ht hg => (hfr.block g (lt_of_heap hg) ?_).trans hg, by rw [hans], ?_⟩, hce⟩
  · simp only [List.mem_singleton]
    rintro rfl
    rw [hr] at hg
    simp only [Option.some.injEq, Obj.cells.injEq] at hg
    obtain ⟨_, rfl, _⟩ := hg
    revert ht
    unfold RefTy
    decide
  · rw [hans]
    dsimp only
    refine ⟨hbs.len, hbs.nil, hbs.le, hbs.big, fun hp => ?_⟩
    obtain ⟨b, o, rfl, hx⟩ := hbs.cells hp
    refine ⟨b, o, rfl, fun j hj => ?_⟩
    have h1 := hx j hj
    rw [← h1]
    rw [u8s_at (by omega)] at h1
    refine World.cell?_of_block (hfr.block _ (World.block_lt_of_cell? x _ h1) ?_)
    simp only [List.mem_singleton]
    rintro rfl
    rw [(blk_cells hr).1] at h1
    generalize o + j = i at h1
    match i with
    | 0 => simp at h1
    | 1 => simp at h1
    | 2 => simp at h1
    | i + 3 => simp at h1

theorem flip_fin {w z x : World} {base rb B g8 cz m : Nat} {S : NetSt} {log : List ByteArray} {vp vf vl vl2 : Value} {u : ByteArray} {pd : List UInt8} (ht : FrT base w z)
    (hrows : ∀ (wd : World), RefRows wd w base rb S log vp vf vl → RefRows wd z base rb S (log ++ [u]) vp vf vl2)
    (hr : z.heap[w.heap.size]? = some (.cells #[.int .i64 0, .slice none 0 0, .int .i64 0] 57 (0, 0)))
    (hv : z.ownsRow B 5 1 (.slice (some ⟨g8, 0, none⟩) pd.length cz) pd.length (u8s pd)) (hB : w.heap.size < B) (hm : m / 8 < pd.length)
    (hx : Fr [g8] z x) (hxg : x.heap[g8]? = (z.setCell ⟨g8, m / 8, none⟩ (.int .u8 (pd.getD (m / 8) 0 ^^^ UInt8.ofNat (2 ^ (m % 8))).toNat)).heap[g8]?) :
    FrT base w x ∧ (∀ (wd : World), RefRows wd w base rb S log vp vf vl → RefRows wd x base rb S (log ++ [u]) vp vf vl2) ∧
      x.heap[w.heap.size]? = some (.cells #[.int .i64 0, .slice none 0 0, .int .i64 0] 57 (0, 0)) ∧ Bs x (some ⟨g8, 0, none⟩) cz (turned pd m) := by
  obtain ⟨h8, cur, hg⟩ := own_blk hv g8 rfl
  obtain ⟨_, _, he, _, _, hnc, hcm⟩ := own_form hv
  simp only [Value.slice.injEq] at he
  obtain ⟨_, _, rfl⟩ := he
  refine ⟨?_, fun wd h => (hrows wd h).keep fun g cs t ht2 hgg => (hx.block g (lt_of_heap hgg) ?_).trans hgg, (hx.block _ (lt_of_heap hr) (by simp; omega)).trans hr, ?_⟩
  · refine ⟨hx.os.trans ht.os, hx.tape.trans ht.tape, hx.output.trans ht.output, Nat.le_trans ht.size hx.size, fun k hk hn => (hx.block k (Nat.lt_of_lt_of_le hk ht.size) ?_).trans (ht.block k hk hn)⟩
    simp only [List.mem_singleton]
    omega
  · simp only [List.mem_singleton]
    rintro rfl
    rw [hg] at hgg
    simp only [Option.some.injEq, Obj.cells.injEq] at hgg
    obtain ⟨_, rfl, _⟩ := hgg
    revert ht2
    unfold RefTy
    decide
  · have hl : (turned pd m).length = pd.length := by simp [turned]
    rw [heap_setCell_at hg] at hxg
    have cx := (blk_cells hxg).1
    refine ⟨by simp [u8s], by simp, by rw [hl]; exact hnc, hcm, fun _ => ⟨g8, 0, rfl, fun j hj => ?_⟩⟩
    rw [hl, Nat.mul_one] at hj
    rw [cx, Nat.zero_add]
    have hz : z.cell? ⟨g8, j, none⟩ = (u8s pd)[j]? := by
      rw [u8s_at hj]
      exact own_cell hv (u8s_at hj)
    rw [(blk_cells hg).1] at hz
    have hjc : j < cur.size := by
      rw [u8s_at hj] at hz
      exact (Array.getElem?_eq_some_iff.1 hz).1
    rw [u8s_at (by omega)]
    by_cases e : j = m / 8
    · subst e
      rw [Array.getElem?_setIfInBounds_self_of_lt hjc]
      simp [turned, List.getD_eq_getElem?_getD, hm]
    · rw [Array.getElem?_setIfInBounds_ne (by omega), hz, u8s_at hj]
      simp only [turned, List.getD_eq_getElem?_getD]
      rw [List.getElem?_set_ne (by omega)]

set_option maxHeartbeats 4000000 in
set_option maxRecDepth 100000 in
theorem rget_any (w : World) (base rb : Nat) (S : NetSt) (log : List ByteArray) (vp vf vl : Value) (u : ByteArray) (h : RefAt w base rb S log vp vf vl) (hu : u.size ≤ 1048576) (hll : log.length ≤ 1000000)
    (hnd : (S.faults.map (·.1)).Nodup) (hn : nth S u = cnt log u) (hfk : ∀ f ∈ S.faults, 1 ≤ f.2.kind ∧ f.2.kind ≤ 7 ∧ 0 ≤ f.2.n ∧ f.2.n ≤ 9223372036854775807) :
    Calls Try.prog 19 #[.pointer (some ⟨rb, 0, none⟩), .string u] w (RGetPost w base rb S log vp vf vl u) := by
  have H := Lib.hid h
  have Hnd := Lib.hid hnd
  have Hn := Lib.hid hn
  have Hfk := Lib.hid hfk
  obtain ⟨i0, hi0, hz0, hz1, hz2⟩ := info_parts infoStr
  have c0 := blk_cells h.blk
  obtain ⟨Al, cl, rfl, _⟩ := own_form h.lrow
  have rlt := c0.2.2
  have hn1 : some rb ≠ (Value.slice Al log.length cl).ownBlock := fun e => by
    obtain ⟨_, cur, h5⟩ := own_blk h.lrow rb e.symm
    rw [h.blk] at h5
    simp at h5
  clear h hnd hn hfk
  go_enter Try.func19, Try.ntmps19
  have hownZ : ∀ o o', ((w.alloc o).alloc o').ownsRow base 9 1 (.slice Al log.length cl) log.length (log.map Value.string) := fun o o' => own_keep H.out.lrow fun g c hg => ((Below.heap_alloc (w.alloc o) o' g (by have := lt_of_heap hg; simp; omega)).trans (Below.heap_alloc w o g (lt_of_heap hg))).trans hg
  have hnw : ∀ o, ∀ j v, [Value.string u][j]? = some v → ((w.alloc o).alloc (.cells #[.string u] 9)).cell? ((⟨w.heap.size + 1, 0, none⟩ : Addr).add j) = some v := by
    intro o j v hv
    have := World.news_of_block (w := (w.alloc o).alloc _) (heap_alloc_new (w.alloc o) (.cells #[.string u] 9)) j v hv
    simpa using this
  have hone : ∀ v ∈ [Value.string u], v.oneCell' = true := by
    intro v hv
    simp only [List.mem_cons, List.not_mem_nil, or_false] at hv
    rcases hv with rfl
    rfl
  have hbz : base ≤ w.heap.size := Nat.le_trans H.out.hb (Nat.le_of_lt rlt)
  have Hown := Lib.hid hownZ
  have Hnw := Lib.hid hnw
  have Hone := Lib.hid hone
  clear hownZ hnw hone
  go_wp2_with (first | (at_builtin; refine wpList_append_lies _ rfl _ _ 41 rfl base 9 i0 (.string ⟨#[]⟩) 1 16 Try.underlying41 hi0 hz0 hz1 hz2 rfl (by omega) (.slice Al log.length cl) log.length (log.map Value.string) rfl (Hown.out _ _) ⟨w.heap.size + 1, 0, none⟩ 1 1 [.string u] rfl rfl (Hnw.out _) Hone.out (by omega) (by simp [maxLen]; omega) (by omega) (by simp; omega) (w.heap.size + 1 + 1) (by simp) ?_))
  intro g cap z2 hown hgrow hat hlt2
  have hz12 : Below w.heap.size w ((w.alloc (.cells #[.int .i64 0, .slice none 0 0, .int .i64 0] 57)).alloc (.cells #[.string u] 9)) := ((Below.refl _ _).alloc (Nat.le_refl _) _).alloc (by simp) _
  have hfz := (hgrow.frozen_far ⟨rb, 2, none⟩ (by simp; omega) hn1).trans ((World.frozen?_of_block (a := ⟨rb, 2, none⟩) (hz12.block rb rlt)).trans (c0.2.1 2))
  have hcl := (hgrow.cell_far ⟨rb, 2, none⟩ (by simp; omega) hn1).trans ((World.cell?_of_block (a := ⟨rb, 2, none⟩) (hz12.block rb rlt)).trans (c0.1 2))
  simp at hcl
  have hzR := H.out.below hz12
  obtain ⟨ht, hrows⟩ := log_fin hzR hown hgrow hu
  have ht := Turned.below hz12 ht
  have hres : (z2.setCell ⟨rb, 2, none⟩ (.slice (some ⟨g, 0, none⟩) (log.length + 1) cap)).heap[w.heap.size]? = some (.cells #[.int .i64 0, .slice none 0 0, .int .i64 0] 57 (0, 0)) := by
    refine (log_fin hzR hown hgrow hu).1.other _ _ _ (by decide) (by decide) ?_
    rw [Below.heap_alloc _ _ _ (by simp)]
    exact heap_alloc_new w _
  have hrows : ∀ (wd : World), RefRows wd w base rb S log vp vf (.slice Al log.length cl) → RefRows wd (z2.setCell ⟨rb, 2, none⟩ (.slice (some ⟨g, 0, none⟩) (log.length + 1) cap)) base rb S (log ++ [u]) vp vf (.slice (some ⟨g, 0, none⟩) (log.length + 1) cap) := fun wd h => hrows wd S (h.below hz12)
  have hszw := ht.fr.size
  have Hrows := Lib.hid hrows
  have Ht := Lib.hid ht
  have Hres := Lib.hid hres
  clear hrows ht hres hown hat hlt2 hzR hz12 c0 Hown Hnw Hone
  go_wp2_with fail
  have HR : Hid (RefAt (z2.setCell ⟨rb, 2, none⟩ (.slice (some ⟨g, 0, none⟩) (log.length + 1) cap)) base rb S (log ++ [u]) vp vf (.slice (some ⟨g, 0, none⟩) (log.length + 1) cap)) :=
    Lib.hid ((Hrows.out w H.out.rows).at_ fun k c hk => Ht.out.fr.keep_u8 hk)
  generalize z2.setCell ⟨rb, 2, none⟩ (.slice (some ⟨g, 0, none⟩) (log.length + 1) cap) = x at *
  clear hfz hcl hgrow
  generalize (Value.slice (some ⟨g, 0, none⟩) (log.length + 1) cap) = vl at *
  refine (asks_any x base rb S (log ++ [u]) vp vf vl u HR.out).mono ?_
  rintro e w1 ⟨rfl, n1, rfl⟩
  have hxy : Below x.heap.size x (x.drewN n1) := Fr.below_drewN (Below.refl _ _) _
  generalize x.drewN n1 = y at *
  have HRy := Lib.hid (HR.out.below hxy)
  have HrowsY : Hid (∀ (wd : World), RefRows wd w base rb S log vp vf (.slice Al log.length cl) → RefRows wd y base rb S (log ++ [u]) vp vf vl) := Lib.hid fun wd h => (Hrows.out wd h).below hxy
  have HresY := Lib.hid ((hxy.block _ (lt_of_heap Hres.out)).trans Hres.out)
  have HtY : Hid (FrT base w y) := Lib.hid (Ht.out.fr.trans (FrT.of_below hxy))
  have hszy := HtY.out.size
  clear hxy HR Hrows Hres Ht hszw hn1 rlt ht
  have Hk : Hid (cnt (log ++ [u]) u = nth S u + 1) := Lib.hid (by rw [cnt_append, cnt_one, Hn.out]; simp)
  rw [Hk.out]
  have Hk2 : Hid (ansOf S u = match look S.faults (u, ((nth S u + 1 : Nat) : Int)) with
    | none => ansBase S u
    | some f => kindDo f.kind f.n f.data (look S.pages u).isSome (ansBase S u).1 (ansBase S u).2.1 (ansBase S u).2.2) := Lib.hid rfl
  have hkk : nth S u + 1 ≤ 1000001 := by have := cnt_le log u; rw [← Hn.out] at this; omega
  generalize nth S u + 1 = k at *
  clear Hk
  have c1 := blk_cells HRy.out.blk
  have r1 := blk_cells HresY.out
  go_wp2_with fail
  go_loopw [7] (fun iv wr => FindRel y S u k iv wr) (fun iv _ => S.faults.length - (intOf iv).toNat)
  case atStart => exact ⟨0, _, _, _, _, _, by omega, rfl, (Below.refl _ _).alloc (Nat.le_refl _) _, heap_alloc_new y _, .inl ⟨fun j f hj => by omega, rfl⟩⟩
  case round =>
    obtain ⟨i, a0, a1, a2, a3, a4, hi, rfl, hbw, hfb, hcase⟩ := hrel
    have Hcase := Lib.hid hcase
    have Hbw := Lib.hid hbw
    have Hfb := Lib.hid hfb
    have HR := Lib.hid (HRy.out.below hbw)
    have cw := blk_cells HR.out.blk
    have cf := blk_cells hfb
    obtain ⟨fcs, f1, f2⟩ := HR.out.faults
    obtain ⟨Af, cpf, rfl, _, _, hfn, hfm⟩ := own_form f2
    have hfl : S.faults.length ≤ 9223372036854775807 := by unfold maxLen at hfm; omega
    clear hcase hbw hfb c1 r1 f1 f2 hfn hfm
    by_cases hlt : i < S.faults.length
    · obtain ⟨f, hf⟩ : ∃ f, S.faults[i]? = some f := ⟨_, List.getElem?_eq_getElem hlt⟩
      obtain ⟨g, cp, v, he, hg, hv, hkey, _⟩ := HR.out.fault_at hf
      simp only [Value.slice.injEq] at he
      obtain ⟨rfl, _, rfl⟩ := he
      obtain ⟨Av, cv, rfl, _⟩ := own_form hv.1
      have g0 : wr.cell? ⟨g, i * 5, none⟩ = some (.string f.2.u) := hg 0 (by omega)
      have g1 : wr.cell? ⟨g, i * 5 + 1, none⟩ = some (.int .i64 f.2.att) := hg 1 (by omega)
      have g2 : wr.cell? ⟨g, i * 5 + 2, none⟩ = some (.int .i64 f.2.kind) := hg 2 (by omega)
      have g3 : wr.cell? ⟨g, i * 5 + 3, none⟩ = some (.int .i64 f.2.n) := hg 3 (by omega)
      have g4 : wr.cell? ⟨g, i * 5 + 4, none⟩ = some (.slice Av f.2.data.length cv) := hg 4 (by omega)
      have Hf := Lib.hid hf
      have Hkey := Lib.hid hkey
      have Hv := Lib.hid hv
      have hseq := str_eq f.2.u u
      clear hf hkey hg hv
      by_cases hboth : f.2.u = u ∧ f.2.att = k
      · obtain ⟨e1, e2⟩ := hboth
        have hs2 : (f.2.att == (k : Int)) = true := by simp [e2]
        rw [decide_eq_true e1] at hseq
        have Hk3 : Hid (f.1 = (u, (k : Int))) := Lib.hid (by rw [Hkey.out, e1, e2])
        clear e1 e2
        go_wp2_with fail
        go_roundw
        case rel =>
          have hs : ∀ (i : Nat) (v : Value) (x : World), Fr [y.heap.size] x (x.setCell ⟨y.heap.size, i, none⟩ v) := fun i v x => Fr.setCell _ _ _ _ (by simp)
          have hfr := ((((hs 0 (.string f.2.u) wr).trans (hs 1 (.int .i64 f.2.att) _)).trans (hs 2 (.int .i64 f.2.kind) _)).trans (hs 3 (.int .i64 f.2.n) _)).trans (hs 4 (.slice Av f.2.data.length cv) _)
          have hce : ((((((wr.setCell ⟨y.heap.size, 0, none⟩ (.string f.2.u)).setCell ⟨y.heap.size, 1, none⟩ (.int .i64 f.2.att)).setCell ⟨y.heap.size, 2, none⟩ (.int .i64 f.2.kind)).setCell ⟨y.heap.size, 3, none⟩ (.int .i64 f.2.n)).setCell ⟨y.heap.size, 4, none⟩ (.slice Av f.2.data.length cv)).heap[y.heap.size]?) =
              some (.cells #[.string f.2.u, .int .i64 f.2.att, .int .i64 f.2.kind, .int .i64 f.2.n, .slice Av f.2.data.length cv] 64 (0, 0)) := by
            rw [heap_setCell_at (heap_setCell_at (heap_setCell_at (heap_setCell_at (heap_setCell_at Hfb.out 0 _) 1 _) 2 _) 3 _) 4 _]
            rfl
          refine ⟨i + 1, _, _, _, _, _, by omega, by go_num, Hbw.out.trans (hfr.below Hbw.out.size (by simp)), hce, .inr ⟨f, List.mem_of_getElem? Hf.out, Hk3.out, Hv.out.keep fun g' cs' hg' => (hfr.block g' (lt_of_heap hg') ?_).trans hg', rfl, rfl, rfl, rfl⟩⟩
          simp only [List.mem_singleton]
          rintro rfl
          rw [Hfb.out] at hg'
          simp at hg'
        case measure => simp [intOf]; omega
      · have Hk3 : Hid (f.1 ≠ (u, (k : Int))) := Lib.hid (by
          rw [Hkey.out]
          intro e
          simp only [Prod.mk.injEq] at e
          exact hboth e)
        have hrel' : FindRel y S u k (.int .i64 ((i + 1 : Nat) : Int)) wr := by
          refine ⟨i + 1, a0, a1, a2, a3, a4, by omega, rfl, Hbw.out, Hfb.out, ?_⟩
          rcases Hcase.out with ⟨hno, hz⟩ | ⟨p, hp1, hp2, hp3, hp4⟩
          · refine .inl ⟨fun j q hj hq => ?_, hz⟩
            by_cases hji : j < i
            · exact hno j q hji hq
            · obtain rfl : j = i := by omega
              rw [Hf.out] at hq
              cases hq
              exact Hk3.out
          · exact .inr ⟨p, hp1, hp2, hp3, hp4⟩
        have Hrel := Lib.hid hrel'
        clear hrel'
        by_cases e1 : f.2.u = u
        · have hs2 : (f.2.att == (k : Int)) = false := by
            simp
            exact fun e2 => hboth ⟨e1, e2⟩
          rw [decide_eq_true e1] at hseq
          clear e1 hboth
          go_wp2_with fail
          go_roundw
          case rel => exact Hrel.out
          case measure => simp [intOf]; omega
        · rw [decide_eq_false e1] at hseq
          clear e1 hboth
          go_wp2_with fail
          go_roundw
          case rel => exact Hrel.out
          case measure => simp [intOf]; omega
    · have hie : i = S.faults.length := by omega
      subst hie
      obtain ⟨us, att, kd, nn, d, Av, cv, hcs, hd, hkd0, hkd7, hn0, hn1, hans⟩ := find_done Hcase.out Hnd.out Hfk.out Hk2.out
      rw [hcs] at cf
      have Hd := Lib.hid hd
      have Hans := Lib.hid hans
      have HrW : Hid (wr.heap[w.heap.size]? = some (.cells #[.int .i64 0, .slice none 0 0, .int .i64 0] 57 (0, 0))) := Lib.hid ((Hbw.out.block _ (lt_of_heap HresY.out)).trans HresY.out)
      have rw1 := blk_cells HrW.out
      have HrowsW : Hid (∀ (wd : World), RefRows wd w base rb S log vp (.slice Af S.faults.length cpf) (.slice Al log.length cl) → RefRows wd wr base rb S (log ++ [u]) vp (.slice Af S.faults.length cpf) vl) := Lib.hid fun wd h => (HrowsY.out wd h).below Hbw.out
      have HtW : Hid (FrT base w wr) := Lib.hid (HtY.out.trans (FrT.of_below Hbw.out))
      have HfbW : Hid (wr.heap[y.heap.size]? = some (.cells #[.string us, .int .i64 att, .int .i64 kd, .int .i64 nn, .slice Av d.length cv] 64 (0, 0))) := Lib.hid (by rw [← hcs]; exact Hfb.out)
      clear Hcase hcs hd hans HresY HrowsY HtY Hfb hfl hlt hi
      have hkk : kd = 0 ∨ kd = 1 ∨ kd = 2 ∨ kd = 3 ∨ kd = 4 ∨ kd = 5 ∨ kd = 6 ∨ kd = 7 := by omega
      by_cases hnow : kd = 1 ∨ kd = 6 ∨ kd = 7
      · rcases hnow with rfl | rfl | rfl
        · have hA : ansOf S u = (0, [], 1) := by rw [Hans.out]; rfl
          have Hend := Lib.hid (rget_end HtW.out HrowsW.out hA (Bs.none_ wr) HrW.out)
          go_wp2_with fail
          have r6 := blk_cells Hend.out.2
          simp only [three, List.length_nil] at r6
          refine bodyPost_ret (v := .agg #[.int .i64 0, .slice none 0 0, .int .i64 1]) ?_ rfl Hend.out.1
          simp [results, Try.results19, go_sem, r6]
        · have hA : ansOf S u = (404, [], 1) := by rw [Hans.out]; rfl
          have Hend := Lib.hid (rget_end HtW.out HrowsW.out hA (Bs.none_ wr) HrW.out)
          go_wp2_with fail
          have r6 := blk_cells Hend.out.2
          simp only [three, List.length_nil] at r6
          refine bodyPost_ret (v := .agg #[.int .i64 404, .slice none 0 0, .int .i64 1]) ?_ rfl Hend.out.1
          simp [results, Try.results19, go_sem, r6]
        · have hA : ansOf S u = (503, [], 1) := by rw [Hans.out]; rfl
          have Hend := Lib.hid (rget_end HtW.out HrowsW.out hA (Bs.none_ wr) HrW.out)
          go_wp2_with fail
          have r6 := blk_cells Hend.out.2
          simp only [three, List.length_nil] at r6
          refine bodyPost_ret (v := .agg #[.int .i64 503, .slice none 0 0, .int .i64 1]) ?_ rfl Hend.out.1
          simp [results, Try.results19, go_sem, r6]
      · by_cases h4 : kd = 4
        · subst h4
          have hbs := (own_bs Hd.out.1)
          obtain ⟨Av', cv', he, hbs⟩ := hbs
          simp only [Value.slice.injEq, true_and] at he
          obtain ⟨rfl, rfl⟩ := he
          have Hbs := Lib.hid hbs
          have hdl := Hd.out.2
          have hA : ansOf S u = (200, d, 1) := by rw [Hans.out]; rfl
          have HA := Lib.hid hA
          clear hA hbs
          go_wp2_with fail
          refine (bytes_any d Av cv wr hdl Hbs.out).mono ?_
          rintro e z ⟨v, rfl, hv, hby⟩
          obtain ⟨Az, cz, rfl, hbz2⟩ := own_bs hv
          have rz := blk_cells ((hby.block _ rw1.2.2).trans HrW.out)
          have Hend := Lib.hid (rget_end (HtW.out.trans (FrT.of_below hby)) (fun wd h => (HrowsW.out wd h).below hby) HA.out hbz2 ((hby.block _ rw1.2.2).trans HrW.out))
          clear hv hbz2 hby
          go_wp2_with fail
          have r6 := blk_cells Hend.out.2
          simp only [three, List.length_nil] at r6
          refine bodyPost_ret (v := .agg #[.int .i64 200, .slice Az d.length cz, .int .i64 1]) ?_ rfl Hend.out.1
          simp [results, Try.results19, go_sem, r6]
        · have h5 : kd = 0 ∨ kd = 2 ∨ kd = 3 ∨ kd = 5 := by omega
          have k1 : (kd == 1) = false := by simp; omega
          have k4 : (kd == 4) = false := by simp; omega
          have k6 : (kd == 6) = false := by simp; omega
          have k7 : (kd == 7) = false := by simp; omega
          have hans3 : ansOf S u = if kd = 0 then ansBase S u else if (look S.pages u).isSome = false then ((ansBase S u).1, (ansBase S u).2.1, (ansBase S u).2.2) else if kd = 2 then ((ansBase S u).1, (ansBase S u).2.1.take nn.toNat, (ansBase S u).2.2) else if kd = 3 then ((ansBase S u).1, turned (ansBase S u).2.1 nn.toNat, (ansBase S u).2.2) else ((ansBase S u).1, (ansBase S u).2.1, nn) := by
            rw [Hans.out]
            unfold kindDo
            rw [if_neg (by omega : ¬ kd = 1), if_neg (by omega : ¬ kd = 6), if_neg (by omega : ¬ kd = 7), if_neg (by omega : ¬ kd = 4)]
          have Hans3 := Lib.hid hans3
          clear hans3 Hans Hd Hnd Hfk Hn
          go_wp2_with fail
          refine (page_any wr base rb S (log ++ [u]) vp _ vl u HR.out).mono ?_
          rintro e w1 ⟨r, rfl, hr, n2, rfl⟩
          have hb1 : Below wr.heap.size wr (wr.drewN n2) := Fr.below_drewN (Below.refl _ _) _
          generalize wr.drewN n2 = v1 at *
          have HrV : Hid (v1.heap[w.heap.size]? = some (.cells #[.int .i64 0, .slice none 0 0, .int .i64 0] 57 (0, 0))) := Lib.hid ((hb1.block _ (lt_of_heap HrW.out)).trans HrW.out)
          have rv1 := blk_cells HrV.out
          have HrowsV : Hid (∀ (wd : World), RefRows wd w base rb S log vp (.slice Af S.faults.length cpf) (.slice Al log.length cl) → RefRows wd v1 base rb S (log ++ [u]) vp (.slice Af S.faults.length cpf) vl) := Lib.hid fun wd h => (HrowsW.out wd h).below hb1
          have HtV : Hid (FrT base w v1) := Lib.hid (HtW.out.trans (FrT.of_below hb1))
          have HRv := Lib.hid (HR.out.below hb1)
          have cv1 := blk_cells HRv.out.blk
          have Hb1 := Lib.hid hb1
          have hfs := (hb1.block _ cf.2.2)
          rcases hr with ⟨i, p, hp, hpu, hfirst, rfl⟩ | ⟨hnone, rfl⟩
          · have hlk : look S.pages u = some p.2 := look_first hp hpu hfirst
            have hb0 : ansBase S u = (200, p.2, 1) := by unfold ansBase; rw [hlk]
            have hA : ansOf S u = if kd = 0 then (200, p.2, 1) else if kd = 2 then (200, p.2.take nn.toNat, 1) else if kd = 3 then (200, turned p.2 nn.toNat, 1) else (200, p.2, nn) := by
              rw [Hans3.out, hlk, hb0, if_neg (by simp : ¬ (some p.2).isSome = false)]
            have HA := Lib.hid hA
            obtain ⟨g, cp, vd, rfl, g0, g1, hvd, _⟩ := HRv.out.page_at hp
            obtain ⟨Ad, cd, rfl, hbs⟩ := own_bs hvd.1
            have hdl := hvd.2
            have Hbs := Lib.hid hbs
            have hlt := (List.getElem?_eq_some_iff.1 hp).1
            have hir : (0 : Int) ≤ i := by omega
            have cfv := blk_cells (hfs.trans HfbW.out)
            have HfbV := Lib.hid (hfs.trans HfbW.out)
            generalize p.2 = pd at *
            clear hlk hb0 hA hp hpu hfirst hvd hbs hfs HR HRy cw cf rw1 g0
            go_wp2_with fail
            refine (bytes_any pd Ad cd v1 hdl Hbs.out).mono ?_
            rintro e z ⟨v, rfl, hv, hby⟩
            have Hv := Lib.hid hv
            obtain ⟨Az, cz, rfl, hbz2⟩ := own_bs hv
            have Hbz := Lib.hid hbz2
            have rz := blk_cells ((hby.block _ rv1.2.2).trans HrV.out)
            have HrZ := Lib.hid ((hby.block _ rv1.2.2).trans HrV.out)
            have fz := blk_cells ((hby.block _ cfv.2.2).trans HfbV.out)
            have HtZ : Hid (FrT base w z) := Lib.hid (HtV.out.trans (FrT.of_below hby))
            have HrowsZ : Hid (∀ (wd : World), RefRows wd w base rb S log (.slice (some ⟨g, 0, none⟩) S.pages.length cp) (.slice Af S.faults.length cpf) (.slice Al log.length cl) → RefRows wd z base rb S (log ++ [u]) (.slice (some ⟨g, 0, none⟩) S.pages.length cp) (.slice Af S.faults.length cpf) vl) := Lib.hid fun wd h => (HrowsV.out wd h).below hby
            have hsv1 := rv1.2.2
            clear hv hbz2 hby cfv rv1 HfbV HrV HtV HrowsV HRv cv1 Hb1 HrW HrowsW HtW
            rcases h5 with rfl | rfl | rfl | rfl
            · have Hend := Lib.hid (rget_end HtZ.out HrowsZ.out (HA.out.trans (if_pos rfl)) Hbz.out HrZ.out)
              go_wp2_with fail
              have r6 := blk_cells Hend.out.2
              simp only [three, List.length_nil] at r6
              refine bodyPost_ret (v := .agg #[.int .i64 200, .slice Az pd.length cz, .int .i64 1]) ?_ rfl Hend.out.1
              simp [results, Try.results19, go_sem, r6]
            · have hcz := Hbz.out.le
              obtain ⟨m, rfl⟩ : ∃ m : Nat, nn = m := ⟨nn.toNat, by omega⟩
              have hA : ansOf S u = (200, pd.take m, 1) := HA.out.trans (by simp)
              have Hend := Lib.hid (rget_end HtZ.out HrowsZ.out hA (Hbz.out.take m) HrZ.out)
              have he : (min (m : Int) (pd.length : Int)).toNat = (pd.take m).length := by simp; omega
              have He := Lib.hid he
              clear hA he
              go_wp2_with fail
              rw [He.out]
              have r6 := blk_cells Hend.out.2
              simp only [three, List.length_nil] at r6
              refine bodyPost_ret (v := .agg #[.int .i64 200, .slice Az (pd.take m).length cz, .int .i64 1]) ?_ rfl Hend.out.1
              generalize (pd.take m).length = tl at *
              simp [results, Try.results19, go_sem, r6]
            · obtain ⟨m, rfl⟩ : ∃ m : Nat, nn = m := ⟨nn.toNat, by omega⟩
              have hA : ansOf S u = (200, turned pd m, 1) := HA.out.trans (by simp)
              have HA3 := Lib.hid hA
              clear hA HA
              by_cases hc : m / 8 < pd.length
              · go_wp2_with fail
                go_loopw [10, 11] (fun xv jv wr => PowRel z m xv jv wr) (fun _ jv _ => m % 8 - (intOf jv).toNat)
                case atStart => exact ⟨0, 1, by omega, rfl, rfl, rfl, rfl⟩
                case round =>
                  obtain ⟨j, X, hj, hX, rfl, rfl, rfl⟩ := hrel
                  have hX64 : j < m % 8 → X ≤ 64 := by
                    intro h
                    rw [hX]
                    exact Nat.pow_le_pow_right (n := 2) (by omega) (by omega : j ≤ 6)
                  have hX128 : X ≤ 128 := by
                    rw [hX]
                    exact Nat.pow_le_pow_right (n := 2) (by omega) (by omega : j ≤ 7)
                  have HX := Lib.hid hX
                  clear hX
                  by_cases hjl : j < m % 8
                  · have hX6 := hX64 hjl
                    clear hX64
                    have hjl2 : (j : Int) < (m : Int) % 8 := by omega
                    go_wp2_with fail
                    go_roundw
                    case rel =>
                      refine ⟨j + 1, 2 * X, by omega, ?_, by go_num, by go_num, rfl⟩
                      rw [HX.out, Nat.pow_succ]
                      omega
                    case measure => simp [intOf]; omega
                  · have hje : j = m % 8 := by omega
                    have hjl2 : ¬ (j : Int) < (m : Int) % 8 := by omega
                    clear hX64
                    subst hje
                    obtain ⟨a8, ha8⟩ : ∃ a8, Az = some a8 := by
                      cases hA8 : Az with
                      | none =>
                        have := (Hbz.out.nil hA8).1
                        omega
                      | some a8 => exact ⟨a8, rfl⟩
                    subst ha8
                    obtain ⟨_, _, he8, _, hA8, _⟩ := own_form Hv.out
                    simp only [Value.slice.injEq] at he8
                    obtain ⟨rfl, _, rfl⟩ := he8
                    obtain ⟨g8, rfl⟩ := hA8 a8 rfl
                    obtain ⟨h8, cur, hb8⟩ := own_blk Hv.out g8 rfl
                    obtain ⟨q, hq⟩ : ∃ q, q = pd.getD (m / 8) 0 := ⟨_, rfl⟩
                    have hcell : wr.cell? ⟨g8, m / 8, none⟩ = some (.int .u8 q.toNat) := by
                      rw [hq]
                      exact own_cell Hv.out (u8s_at hc)
                    have hfz := (blk_cells hb8).2.1 (m / 8)
                    have Hq := Lib.hid hq
                    have hB : w.heap.size < v1.heap.size := hsv1
                    have hil : (0 : Int) ≤ (m : Int) / 8 := by omega
                    have hil2 : (m : Int) / 8 < pd.length := by omega
                    have htn : ((m : Int) / 8).toNat = m / 8 := by omega
                    have hx8 : bits BinOp.xor IntKind.u8 (q.toNat : Int) (X : Int) = ((q ^^^ UInt8.ofNat (2 ^ (m % 8))).toNat : Int) := by
                      rw [← HX.out, u8_xor_nat _ _ q.toNat_lt (by omega)]
                      rw [UInt8.toNat_xor, UInt8.toNat_ofNat', Nat.mod_eq_of_lt (by omega)]
                    have Hx8 := Lib.hid hx8
                    clear hx8 hq hb8 hA8
                    go_wp2_with fail
                    go_region
                    all_goals
                      rw [Hx8.out]
                      have hfin := flip_fin (x := (wr.setCell ⟨g8, m / 8, none⟩ (.int .u8 (pd.getD (m / 8) 0 ^^^ UInt8.ofNat (2 ^ (m % 8))).toNat)).drew) HtZ.out HrowsZ.out HrZ.out Hv.out hB hc ((Fr.setCell [g8] wr ⟨g8, m / 8, none⟩ _ (by simp)).drewN 1) rfl
                      rw [← Hq.out] at hfin
                      generalize (wr.setCell ⟨g8, m / 8, none⟩ (.int .u8 (q ^^^ UInt8.ofNat (2 ^ (m % 8))).toNat)).drew = x8 at *
                      obtain ⟨f1, f2, f3, f4⟩ := hfin
                      have Hend := Lib.hid (rget_end f1 f2 HA3.out f4 f3)
                      have r8 := blk_cells f3
                      have htl : (turned pd m).length = pd.length := by simp [turned]
                      rw [htl] at Hend
                      clear f1 f2 f3 f4 htl
                      go_wp2_with fail
                      have r6 := blk_cells Hend.out.2
                      simp only [three] at r6
                      refine bodyPost_ret (v := .agg #[.int .i64 200, .slice (some ⟨g8, 0, none⟩) pd.length cz, .int .i64 1]) ?_ rfl Hend.out.1
                      simp [results, Try.results19, go_sem, r6]
              · have ht : turned pd m = pd := by unfold turned; rw [List.set_eq_of_length_le (by omega)]
                have Hend := Lib.hid (rget_end HtZ.out HrowsZ.out (HA3.out.trans (by rw [ht])) Hbz.out HrZ.out)
                clear ht
                go_wp2_with fail
                have r6 := blk_cells Hend.out.2
                simp only [three, List.length_nil] at r6
                refine bodyPost_ret (v := .agg #[.int .i64 200, .slice Az pd.length cz, .int .i64 1]) ?_ rfl Hend.out.1
                simp [results, Try.results19, go_sem, r6]
            · have Hend := Lib.hid (rget_end HtZ.out HrowsZ.out (tk := nn) (l := pd) (st := 200) (HA.out.trans (by simp)) Hbz.out HrZ.out)
              go_wp2_with fail
              have r6 := blk_cells Hend.out.2
              simp only [three, List.length_nil] at r6
              refine bodyPost_ret (v := .agg #[.int .i64 200, .slice Az pd.length cz, .int .i64 nn]) ?_ rfl Hend.out.1
              simp [results, Try.results19, go_sem, r6]
          · have hlk : look S.pages u = none := (look_none _ _).2 fun hm => by
              obtain ⟨q, hq, e⟩ := List.mem_map.1 hm
              exact hnone q hq e
            have hb0 : ansBase S u = (404, [], 1) := by unfold ansBase; rw [hlk]
            have hA : ansOf S u = (404, [], 1) := by rw [Hans3.out, hlk, hb0]; split <;> rfl
            have Hend := Lib.hid (rget_end HtV.out HrowsV.out hA (Bs.none_ v1) HrV.out)
            clear hlk hb0 hA hnone hfs
            go_wp2_with fail
            have r6 := blk_cells Hend.out.2
            simp only [three, List.length_nil] at r6
            refine bodyPost_ret (v := .agg #[.int .i64 404, .slice none 0 0, .int .i64 1]) ?_ rfl Hend.out.1
            simp [results, Try.results19, go_sem, r6]
end Go.Proofs.Ytpblaclhfcomeaa
