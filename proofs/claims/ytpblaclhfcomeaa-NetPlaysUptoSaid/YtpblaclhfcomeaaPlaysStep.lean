/-
  What stands behind one operation: the network and the reference side by side.
-/
import Derived.Test.YtpblaclhfcomeaaPlaysLaw
namespace Go.Proofs.Ytpblaclhfcomeaa
open Go.RowKit Go.Maps

/-- the network and the reference, side by side, behind at most i operations -/
structure PSt (w0 : World) (nb pb fb ab B rb : Nat) (S : NetSt) (log : List ByteArray) (i : Nat) (wr : World) : Prop where
  net : NetAt wr nb pb fb ab 0 S
  ref : ∃ vp vf vl, RefAt wr B rb S log vp vf vl
  kin : Kin S log
  ll : log.length ≤ i
  pl : S.pages.length ≤ 200 + i
  fl : S.faults.length ≤ 200 + i
  below : Below w0.heap.size w0 wr
theorem PSt.later {w0 w w' : World} {nb pb fb ab B rb i : Nat} {S : NetSt} {log : List ByteArray} (h : PSt w0 nb pb fb ab B rb S log i w) (hb : Below w.heap.size w w') : PSt w0 nb pb fb ab B rb S log i w' := by
  obtain ⟨vp, vf, vl, hr⟩ := h.ref
  exact ⟨h.net.below hb, ⟨vp, vf, vl, hr.below hb⟩, h.kin, h.ll, h.pl, h.fl, h.below.trans (hb.mono h.below.size)⟩
theorem PSt.more {w0 w : World} {nb pb fb ab B rb i j : Nat} {S : NetSt} {log : List ByteArray} (h : PSt w0 nb pb fb ab B rb S log i w) (hj : i ≤ j) : PSt w0 nb pb fb ab B rb S log j w :=
  ⟨h.net, h.ref, h.kin, by have := h.ll; omega, by have := h.pl; omega, by have := h.fl; omega, h.below⟩

/-- the network's four blocks stay over what the reference does -/
theorem NetAt.frT_blocks {w w' : World} {nb pb fb ab : Nat} {s : Int} {S : NetSt} {base : Nat} (h : NetAt w nb pb fb ab s S) (hf : FrT base w w') : ∀ k, k ∈ [nb, pb, fb, ab] → w'.heap[k]? = w.heap[k]? := by
  intro k hk
  refine hf.block k (h.lt k hk) (.inr ?_)
  rintro ⟨cs, t, h1, h2⟩
  obtain ⟨o1, g1, t1⟩ := h.pages
  obtain ⟨o2, g2, t2⟩ := h.faults
  obtain ⟨o3, g3, t3⟩ := h.asked
  simp only [List.mem_cons, List.not_mem_nil, or_false] at hk
  rcases hk with rfl | rfl | rfl | rfl
  · rw [h.blk] at h1
    simp only [Option.some.injEq, Obj.cells.injEq] at h1
    obtain ⟨_, rfl, _⟩ := h1
    revert h2
    unfold RefTy
    decide
  · obtain ⟨es, c, rfl⟩ := t1.is_map
    rw [g1] at h1; cases h1
  · obtain ⟨es, c, rfl⟩ := t2.is_map
    rw [g2] at h1; cases h1
  · obtain ⟨es, c, rfl⟩ := t3.is_map
    rw [g3] at h1; cases h1
/-- a block of cells is none of the network's maps -/
theorem NetAt.not_cells {w : World} {nb pb fb ab : Nat} {s : Int} {S : NetSt} (h : NetAt w nb pb fb ab s S) {g : Nat} {cs : Array Value} {t : TypeId} (hg : w.heap[g]? = some (.cells cs t (0, 0))) : g ≠ pb ∧ g ≠ fb ∧ g ≠ ab := by
  obtain ⟨o1, g1, t1⟩ := h.pages
  obtain ⟨o2, g2, t2⟩ := h.faults
  obtain ⟨o3, g3, t3⟩ := h.asked
  refine ⟨?_, ?_, ?_⟩
  · rintro rfl
    obtain ⟨es, c, rfl⟩ := t1.is_map
    rw [g1] at hg; cases hg
  · rintro rfl
    obtain ⟨es, c, rfl⟩ := t2.is_map
    rw [g2] at hg; cases hg
  · rintro rfl
    obtain ⟨es, c, rfl⟩ := t3.is_map
    rw [g3] at hg; cases hg
theorem mem_blk {A : Option Addr} {n k : Nat} (hA : ∀ a, A = some a → n ≤ a.block) (hk : k ∈ blk A) : n ≤ k := by
  cases A with
  | none => simp [blk] at hk
  | some a => simp [blk] at hk; subst hk; exact hA a rfl

theorem rget_at (w : World) (base rb : Nat) (S : NetSt) (log : List ByteArray) (vp vf vl : Value) (u : ByteArray) (st tk : Int) (l : List UInt8) (hans : ansOf S u = (st, l, tk)) (h : RefAt w base rb S log vp vf vl) (hu : u.size ≤ 1048576) (hll : log.length ≤ 1000000)
    (hk : Kin S log) (hfk : ∀ f ∈ S.faults, 1 ≤ f.2.kind ∧ f.2.kind ≤ 7 ∧ 0 ≤ f.2.n ∧ f.2.n ≤ 9223372036854775807) :
    Calls Try.prog 19 #[.pointer (some ⟨rb, 0, none⟩), .string u] w fun e w' => ∃ vl' A c, e = .returned (.agg #[.int .i64 st, .slice A l.length c, .int .i64 tk]) ∧ FrT base w w' ∧ (∀ (wd : World), RefRows wd w base rb S log vp vf vl → RefRows wd w' base rb S (log ++ [u]) vp vf vl') ∧ Bs w' A c l := by
  refine (rget_any w base rb S log vp vf vl u h hu hll hk.fnd (hk.cnt u) hfk).mono ?_
  rintro e w' ⟨vl', A, c, h1, h2, h3, h4⟩
  rw [hans] at h3 h4
  exact ⟨vl', A, c, h3, h1, h2, h4⟩
theorem Own.frT {w w' : World} {base : Nat} {A : Option Addr} {l : List UInt8} (h : Own w A l) (hT : FrT base w w') : Own w' A l := by
  rcases h with h | ⟨g, h1, h2⟩
  · exact .inl h
  · exact .inr ⟨g, h1, hT.keep_u8 h2⟩
/-- behind a request -/
theorem get_done {w0 x y z t : World} {nb pb fb ab B rb i : Nat} {S : NetSt} {log : List ByteArray} {u : ByteArray} {A : Option Addr} {l : List UInt8} {vp vf vl vl2 : Value} (h : PSt w0 nb pb fb ab B rb S log i x) (hu : u.size ≤ 1048576)
    (hN : NetAt y nb pb fb ab 0 (S.ask u)) (hO : Own y A l) (hA : ∀ a, A = some a → x.heap.size ≤ a.block) (hF : Fr [ab] x y) (href : RefAt x B rb S log vp vf vl) (hT : FrT B y z)
    (hR : ∀ wd, RefRows wd y B rb S log vp vf vl → RefRows wd z B rb S (log ++ [u]) vp vf vl2) (hW : Fr (blk A) z t) (hlow : w0.heap.size ≤ ab) (hB : w0.heap.size ≤ B) : PSt w0 nb pb fb ab B rb (S.ask u) (log ++ [u]) (i + 1) t := by
  have hx := h.net
  have hblk : ∀ k, k < x.heap.size → k ∉ blk A := fun k hk hm => by have := mem_blk hA hm; omega
  -- the bytes of x
  have hU : ∀ (g : Nat) (cs : Array Value), x.heap[g]? = some (.cells cs 5 (0, 0)) → t.heap[g]? = some (.cells cs 5 (0, 0)) := by
    intro g cs hg
    have h1 := (hF.block g (lt_of_heap hg) (by simp; exact (hx.not_cells hg).2.2)).trans hg
    have h2 := hT.keep_u8 h1
    exact (hW.block g (lt_of_heap h2) (hblk g (lt_of_heap hg))).trans h2
  have hr8 : Rows8 x t := fun g l hg => hU g _ hg
  have hb4 : ∀ k, k ∈ [nb, pb, fb, ab] → t.heap[k]? = y.heap[k]? := fun k hk =>
    (hW.block k (Nat.lt_of_lt_of_le (hN.lt k hk) hT.size) (hblk k (hx.lt k hk))).trans (hN.frT_blocks hT k hk)
  have hyx : ∀ k, k ∈ [nb, pb, fb] → y.heap[k]? = x.heap[k]? := fun k hk => hF.block k (hx.lt k (by simp at hk ⊢; rcases hk with h | h | h <;> simp [h])) (by
    obtain ⟨_, _, n3⟩ := hx.ne_nb
    have := hx.d2
    have := hx.d3
    simp at hk ⊢
    rcases hk with rfl | rfl | rfl <;> assumption)
  obtain ⟨o1, p1, t1⟩ := hx.pages
  obtain ⟨o2, p2, t2⟩ := hx.faults
  obtain ⟨o3, p3, t3⟩ := hN.asked
  have hnet : NetAt t nb pb fb ab 0 (S.ask u) := ⟨(hb4 nb (by simp)).trans hN.blk, ⟨o1, ((hb4 pb (by simp)).trans (hyx pb (by simp))).trans p1, t1.mono fun _ _ hh => hh.keep hr8⟩,
    ⟨o2, ((hb4 fb (by simp)).trans (hyx fb (by simp))).trans p2, t2.mono fun _ _ hh => hh.keep hr8⟩, ⟨o3, (hb4 ab (by simp)).trans p3, t3⟩, hx.d1, hx.d2, hx.d3⟩
  have hrows : RefRows x t B rb S (log ++ [u]) vp vf vl2 := by
    refine (hR x (href.rows.keep fun g cs t' _ hg => (hF.block g (lt_of_heap hg) (by simp; exact (hx.not_cells hg).2.2)).trans hg)).keep fun g cs t' ht hg => (hW.block g (lt_of_heap hg) fun hm => ?_).trans hg
    rcases hO with ⟨rfl, _⟩ | ⟨g', rfl, hg'⟩
    · simp [blk] at hm
    · simp [blk] at hm
      subst hm
      have := hT.keep_u8 hg'
      rw [hg] at this
      simp only [Option.some.injEq, Obj.cells.injEq] at this
      obtain ⟨_, rfl, _⟩ := this
      revert ht
      unfold RefTy
      decide
  have hrt := hrows.at_ hU
  refine ⟨hnet, ⟨vp, vf, vl2, hrt.blk, hrt.hb, hrt.pages, hrt.faults, hrt.lrow, hrt.sm⟩, h.kin.ask hu, by have := h.ll; simp; omega, by have := h.pl; simpa [NetSt.ask] using (by omega : S.pages.length ≤ 200 + (i + 1)), by have := h.fl; simpa [NetSt.ask] using (by omega : S.faults.length ≤ 200 + (i + 1)), ?_⟩
  have e1 := h.below.size
  have e2 := hF.size
  have e3 := hT.size
  refine ((h.below.trans (hF.below e1 (by simp; exact hlow))).trans ((hT.below ?_).mono hB)).trans (hW.below (by omega) fun k hk => by have := mem_blk hA hk; omega)
  have := lt_of_heap href.blk
  have := href.hb
  omega

theorem NSetPost.fr {w w' : World} {nb pb fb ab : Nat} {S : NetSt} {R : Value → List UInt8 → Prop} {u : ByteArray} {d : List UInt8} {e : Ending} (h : NSetPost w nb pb fb ab S R u d e w') : Fr [pb] w w' := by
  rcases h with ⟨_, _, _, hf⟩ | ⟨_, _, _, hf, _⟩
  · exact hf.more (by simp)
  · exact hf
theorem NSetPost.code {w w' : World} {nb pb fb ab : Nat} {S : NetSt} {R : Value → List UInt8 → Prop} {u : ByteArray} {d : List UInt8} {e : Ending} (h : NSetPost w nb pb fb ab S R u d e w') : e = .returned (.int .i64 (if fitsB u = true then 0 else 13)) := by
  rcases h with ⟨h1, h2, _⟩ | ⟨h1, h2, _⟩
  · rw [h2, h1]; rfl
  · rw [h2, h1]; rfl
theorem RefSetPost.code {w w' : World} {base rb : Nat} {S : NetSt} {log : List ByteArray} {vp vf vl : Value} {u : ByteArray} {d : List UInt8} {e : Ending} (h : RefSetPost w base rb S log vp vf vl u d e w') : e = .returned (.int .i64 (if fitsB u = true then 0 else 13)) := by
  rcases h with ⟨_, ⟨h1, h2, _⟩ | ⟨h1, h2, _⟩⟩
  · rw [h2, h1]; rfl
  · rw [h2, h1]; rfl
theorem set_mid {w0 x w1 y t : World} {nb pb fb ab B rb i g cap : Nat} {S : NetSt} {log : List ByteArray} {b : List UInt8} {vp vf vl : Value} (h : PSt w0 nb pb fb ab B rb S log i x)
    (hL : Below x.heap.size x w1) (hG : LentAt w1 x.heap.size g cap b) (hF : Fr [pb] w1 y) (hW : Fr [g] y t) (href : RefAt x B rb S log vp vf vl) (hlow : w0.heap.size ≤ pb) :
    RefAt t B rb S log vp vf vl ∧ Below w0.heap.size w0 t ∧ (∀ (k : Nat) (cs : Array Value) (ty : TypeId), x.heap[k]? = some (.cells cs ty (0, 0)) → t.heap[k]? = some (.cells cs ty (0, 0))) := by
  have hx := h.net
  have hgx := (own_blk hG g rfl).1
  have h1 := hx.below hL
  have hC : ∀ (k : Nat) (cs : Array Value) (ty : TypeId), x.heap[k]? = some (.cells cs ty (0, 0)) → t.heap[k]? = some (.cells cs ty (0, 0)) := by
    intro k cs ty hk
    have e0 := lt_of_heap hk
    have e1 := (hL.block k e0).trans hk
    have e2 := (hF.block k (lt_of_heap e1) (by simp; exact (h1.not_cells e1).1)).trans e1
    exact (hW.block k (lt_of_heap e2) (by simp; omega)).trans e2
  refine ⟨href.keep fun k cs ty _ hk => hC k cs ty hk, ?_, hC⟩
  have e1 := h.below.size
  have e2 := hL.size
  have e3 := hF.size
  exact ((h.below.trans (hL.mono e1)).trans (hF.below (by omega) (by simp; exact hlow))).trans (hW.below (by omega) (by simp; omega))
/-- behind a page that was laid -/
theorem set_done {w0 x w1 y t z : World} {nb pb fb ab B rb i g cap : Nat} {S : NetSt} {log : List ByteArray} {u : ByteArray} {b : List UInt8} {vp vf vl : Value} (h : PSt w0 nb pb fb ab B rb S log i x)
    (hL : Below x.heap.size x w1) (hG : LentAt w1 x.heap.size g cap b) (hS : NSetPost w1 nb pb fb ab S (RPage x) u b (.returned (.int .i64 (if fitsB u = true then 0 else 13))) y)
    (hW : Fr [g] y t) (href : RefAt x B rb S log vp vf vl) (hR : RefAt t B rb S log vp vf vl → RefSetPost t B rb S log vp vf vl u b (.returned (.int .i64 (if fitsB u = true then 0 else 13))) z) (hlow : w0.heap.size ≤ pb) (hB : w0.heap.size ≤ B) (hbl : b.length ≤ 1048575) :
    ∃ S', S'.asked = S.asked ∧ PSt w0 nb pb fb ab B rb S' log (i + 1) z := by
  have hx := h.net
  have hgx := (own_blk hG g rfl).1
  obtain ⟨hg1, cur, hg2⟩ := own_blk hG g rfl
  have hglt := lt_of_heap hg2
  have hF : Fr [pb] w1 y := by
    rcases hS with ⟨_, _, _, hf⟩ | ⟨_, _, _, hf, _⟩
    · exact hf.more (by simp)
    · exact hf
  have h1 := hx.below hL
  -- cells of x
  have hC : ∀ (k : Nat) (cs : Array Value) (ty : TypeId), x.heap[k]? = some (.cells cs ty (0, 0)) → t.heap[k]? = some (.cells cs ty (0, 0)) := by
    intro k cs ty hk
    have e0 := lt_of_heap hk
    have e1 := (hL.block k e0).trans hk
    have e2 := (hF.block k (lt_of_heap e1) (by simp; exact (h1.not_cells e1).1)).trans e1
    exact (hW.block k (lt_of_heap e2) (by simp; omega)).trans e2
  have hr8 : Rows8 x t := fun k l hk => hC k _ _ hk
  have hrt : RefAt t B rb S log vp vf vl := href.keep fun k cs ty _ hk => hC k cs ty hk
  have hpost := hR hrt
  have hbt : Below w0.heap.size w0 t := by
    have e1 := h.below.size
    have e2 := hL.size
    have e3 := hF.size
    exact ((h.below.trans (hL.mono e1)).trans (hF.below (by omega) (by simp; exact hlow))).trans (hW.below (by omega) (by simp; omega))
  have hBt : B ≤ t.heap.size := Nat.le_trans hrt.hb (Nat.le_of_lt (lt_of_heap hrt.blk))
  have hty : ∀ k, k ∈ [nb, pb, fb, ab] → t.heap[k]? = y.heap[k]? := fun k hk => hW.block k (Nat.lt_of_lt_of_le (h1.lt k hk) hF.size) (by have := hx.lt k hk; simp; omega)
  obtain ⟨o2, p2, t2⟩ := hx.faults
  have hfb : y.heap[fb]? = x.heap[fb]? := (hF.block fb (h1.lt fb (by simp)) (by simp; exact hx.d1.symm)).trans (hL.block fb (hx.lt fb (by simp)))
  rcases hS with ⟨hfit, _, hN, hf0⟩ | ⟨hfit, _, hN, _, g2, o', hg3, hrow, ho', hT'⟩
  · rcases hpost with ⟨hFT, ⟨_, _, hz⟩ | ⟨hf2, _⟩⟩
    · obtain ⟨o1', p1, t1⟩ := hx.pages
      obtain ⟨o3, p3, t3⟩ := hN.asked
      have hpb : y.heap[pb]? = x.heap[pb]? := (hf0.block pb (h1.lt pb (by simp)) (by simp)).trans (hL.block pb (hx.lt pb (by simp)))
      have hnet : NetAt t nb pb fb ab 0 S := ⟨(hty nb (by simp)).trans hN.blk, ⟨o1', ((hty pb (by simp)).trans hpb).trans p1, t1.mono fun _ _ hh => hh.keep hr8⟩,
        ⟨o2, ((hty fb (by simp)).trans hfb).trans p2, t2.mono fun _ _ hh => hh.keep hr8⟩, ⟨o3, (hty ab (by simp)).trans p3, t3⟩, hx.d1, hx.d2, hx.d3⟩
      exact ⟨S, rfl, hnet.frT hFT, ⟨_, _, _, hz⟩, h.kin, by have := h.ll; omega, by have := h.pl; omega, by have := h.fl; omega, hbt.trans ((hFT.below hBt).mono hB)⟩
    · rw [hfit] at hf2; cases hf2
  · rcases hpost with ⟨hFT, ⟨hf2, _⟩ | ⟨_, _, vp', hz⟩⟩
    · rw [hfit] at hf2; cases hf2
    · obtain ⟨o3, p3, t3⟩ := hN.asked
      have hnet : NetAt t nb pb fb ab 0 (S.page u b) := ⟨(hty nb (by simp)).trans hN.blk, ⟨o', (hty pb (by simp)).trans ho', hT'.mono fun v d hv => by
          rcases hv with hv | ⟨rfl, rfl⟩
          · exact hv.keep hr8
          · refine ⟨by omega, g2, rfl, (hW.block g2 (lt_of_heap hrow) (by simp; omega)).trans hrow⟩⟩,
        ⟨o2, ((hty fb (by simp)).trans hfb).trans p2, t2.mono fun _ _ hh => hh.keep hr8⟩, ⟨o3, (hty ab (by simp)).trans p3, t3⟩, hx.d1, hx.d2, hx.d3⟩
      exact ⟨S.page u b, rfl, hnet.frT hFT, ⟨_, _, _, hz⟩, h.kin.page u b, by have := h.ll; omega, by have := h.pl; have := put_len S.pages u b; simp only [NetSt.page]; omega, by have := h.fl; simp only [NetSt.page]; omega, hbt.trans ((hFT.below hBt).mono hB)⟩

/-- a map is none of the reference's blocks -/
theorem RefAt.net_fr {w w' : World} {nb pb fb ab : Nat} {s : Int} {S S2 : NetSt} {base rb : Nat} {log : List ByteArray} {vp vf vl : Value} {F : List Nat} (h : RefAt w base rb S2 log vp vf vl) (hn : NetAt w nb pb fb ab s S) (hF : Fr F w w') (hs : ∀ k, k ∈ F → k = pb ∨ k = fb ∨ k = ab) : RefAt w' base rb S2 log vp vf vl :=
  h.keep fun g cs t _ hg => (hF.block g (lt_of_heap hg) fun hm => by
    obtain ⟨n1, n2, n3⟩ := hn.not_cells hg
    rcases hs g hm with e | e | e
    · exact n1 e
    · exact n2 e
    · exact n3 e).trans hg
/-- behind a fault that was said -/
theorem add_done {w0 x y z : World} {nb pb fb ab B rb i : Nat} {S S2 : NetSt} {log : List ByteArray} {vp vf vl : Value} (h : PSt w0 nb pb fb ab B rb S log i x) (hk : Kin S2 log) (hp : S2.pages.length ≤ 200 + (i + 1)) (hf : S2.faults.length ≤ 200 + (i + 1))
    (hN : NetAt y nb pb fb ab 0 S2) (hB : Below w0.heap.size w0 y) (hT : FrT B y z) (hz : RefAt z B rb S2 log vp vf vl) (hwB : w0.heap.size ≤ B) (hBy : B ≤ y.heap.size) : PSt w0 nb pb fb ab B rb S2 log (i + 1) z :=
  ⟨hN.frT hT, ⟨_, _, _, hz⟩, hk, by have := h.ll; omega, hp, hf, hB.trans ((hT.below hBy).mono hwB)⟩

theorem texts_at (x y : List ByteArray) (A1 A2 : Option Addr) (n1 n2 c1 c2 : Nat) (w : World) (e1 : n1 = x.length) (e2 : n2 = y.length) (h1 : Sl w A1 c1 x.length 1 (x.map Value.string)) (h2 : Sl w A2 c2 y.length 1 (y.map Value.string)) (he : x = y) :
    Calls Try.prog 27 #[.slice A1 n1 c1, .slice A2 n2 c2] w fun e w' => e = .returned (.bool true) ∧ ∃ n, w' = w.drewN n := by
  subst e1 e2
  refine (texts_any x y A1 A2 c1 c2 w h1 h2).mono ?_
  rintro e w' ⟨rfl, h⟩
  exact ⟨by rw [decide_eq_true he], h⟩
theorem enc_str (ss : List (List UInt8)) : (ss.map strB).map Value.string = ss.map Go.Proofs.encStr := by
  rw [List.map_map]
  rfl
theorem sl_of_enc {w : World} {A : Option Addr} {c : Nat} {ss : List (List UInt8)} (h : Sl w A c ss.length 1 (ss.map Go.Proofs.encStr)) : Sl w A c (ss.map strB).length 1 ((ss.map strB).map Value.string) := by
  rw [enc_str, List.length_map]
  exact h

/-- behind k bytes that were written over -/
def FillRel (y : World) (g len : Nat) (kv : Value) (wr : World) : Prop :=
  ∃ k : Nat, k ≤ len ∧ kv = .int .i64 k ∧ Fr [g] y wr ∧ ∃ cs, wr.heap[g]? = some (.cells cs 5 (0, 0)) ∧ len ≤ cs.size
theorem LentAt.size {w : World} {B g cap : Nat} {x : List UInt8} (h : LentAt w B g cap x) : ∃ cs, w.heap[g]? = some (.cells cs 5 (0, 0)) ∧ x.length ≤ cs.size := by
  obtain ⟨_, ⟨h1, _⟩ | ⟨g', cap', cur, he, _, hg, hn, _, hs, _⟩⟩ := h
  · cases h1
  · simp only [Value.slice.injEq, Option.some.injEq, Addr.mk.injEq, and_true] at he
    obtain ⟨rfl, _, rfl⟩ := he
    exact ⟨cur, hg, by omega⟩
end Go.Proofs.Ytpblaclhfcomeaa
