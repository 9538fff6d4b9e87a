/-
  The reference network: Set.
-/
import Derived.Test.YtpblaclhfcomeaaRefAdd
namespace Go.Proofs.Ytpblaclhfcomeaa
open Go.RowKit Go.Maps

attribute [local go_sem] lt1 lt2 lt3 lt4 lt5 lt6

theorem infoPage2 : (Try.prog.info? 94).map (fun i => (i.zero, i.size, i.bytes)) = some (some (.agg #[.string ⟨#[]⟩, .slice none 0 0]), 2, 40) := by kernel_rfl

theorem flat_set {v : Value} : ∀ {cs : List (List Value)} {i : Nat} {c0 c1 : Value} (_ : ∀ c ∈ cs, c.length = 2) (_ : cs[i]? = some [c0, c1]), cs.flatten.set (i * 2 + 1) v = (cs.set i [c0, v]).flatten
  | [], i, c0, c1, _, hi => by simp at hi
  | a :: cs, 0, c0, c1, hk, hi => by
    simp at hi
    subst hi
    simp
  | a :: cs, i + 1, c0, c1, hk, hi => by
    simp at hi
    have ha := hk a (by simp)
    have ih := flat_set (v := v) (cs := cs) (i := i) (fun c hc => hk c (by simp [hc])) hi
    rw [List.flatten_cons, List.set_append_right _ _ (by rw [ha]; omega), List.set_cons_succ, List.flatten_cons, ← ih, ha, show (i + 1) * 2 + 1 - 2 = i * 2 + 1 by omega]

theorem own_set {w : World} {base g n cap i k : Nat} {e : TypeId} {xs : List Value} (v : Value) (h : w.ownsRow base e k (.slice (some ⟨g, 0, none⟩) n cap) n xs) :
    (w.setCell ⟨g, i, none⟩ v).ownsRow base e k (.slice (some ⟨g, 0, none⟩) n cap) n (xs.set i v) := by
  obtain ⟨h1, ⟨h2, _⟩ | ⟨g', cap', cur, hv, hb, hg, hn, hc, hs, hx⟩⟩ := h
  · cases h2
  · simp only [Value.slice.injEq, Option.some.injEq, Addr.mk.injEq] at hv
    obtain ⟨⟨rfl, _⟩, _, rfl⟩ := hv
    refine ⟨by simp [h1], .inr ⟨g, cap, cur.setIfInBounds i v, rfl, hb, heap_setCell_at hg i v, hn, hc, by simp [hs], ?_⟩⟩
    rw [Array.toList_setIfInBounds, List.take_set, hx]

theorem put_set {ν : Type} : ∀ {m : List (ByteArray × ν)} {i : Nat} {u : ByteArray} {y z : ν}, (m.map (·.1)).Nodup → m[i]? = some (u, z) → put m u y = m.set i (u, y) := by
  intro m i u y z hd hi
  have hl : look m u = some z := look_of_mem hd (u, z) (List.mem_of_getElem? hi)
  unfold put
  rw [hl, if_pos (by rfl)]
  clear hl
  induction m generalizing i with
  | nil => simp at hi
  | cons p m ih =>
    simp only [List.map_cons, List.nodup_cons] at hd
    cases i with
    | zero =>
      simp at hi
      subst hi
      simp only [List.map_cons, List.set_cons_zero, if_true]
      congr 1
      conv => rhs; rw [← List.map_id m]
      apply List.map_congr_left
      intro q hq
      rw [if_neg fun e => hd.1 (List.mem_map.2 ⟨q, hq, e⟩)]
      rfl
    | succ i =>
      simp at hi
      have hne : ¬ p.1 = u := fun e => hd.1 (e ▸ List.mem_map.2 ⟨(u, z), List.mem_of_getElem? hi, rfl⟩)
      simp only [List.map_cons, List.set_cons_succ]
      rw [if_neg hne, ih hd.2 hi]
theorem put_new {ν : Type} {m : List (ByteArray × ν)} {u : ByteArray} {y : ν} (h : ∀ p ∈ m, p.1 ≠ u) : put m u y = m ++ [(u, y)] := by
  have hl : look m u = none := (look_none m u).2 fun hh => by
    obtain ⟨p, hp, e⟩ := List.mem_map.1 hh
    exact h p hp e
  unfold put
  rw [hl]
  rfl
theorem All2.set {α β : Type} {Q : α → β → Prop} {a : α} {b : β} (hq : Q a b) : ∀ {l : List α} {m : List β} {i : Nat}, All2 Q l m → All2 Q (l.set i a) (m.set i b)
  | [], [], _, _ => trivial
  | _ :: _, _ :: _, 0, h => ⟨hq, h.2⟩
  | _ :: _, _ :: _, _ + 1, h => ⟨h.1, All2.set hq h.2⟩
  | [], _ :: _, _, h => h.elim
  | _ :: _, [], _, h => h.elim

/-- a page's bytes laid anew in the reference's row -/
theorem set_fin {x z : World} {base rb g cp i : Nat} {S : NetSt} {log : List ByteArray} {vf vl : Value} {u : ByteArray} {d0 b : List UInt8} {Av : Option Addr} {cv B : Nat} (h : RefAt x base rb S log (.slice (some ⟨g, 0, none⟩) S.pages.length cp) vf vl)
    (hi : S.pages[i]? = some (u, d0)) (hnd : (S.pages.map (·.1)).Nodup) (hb : Below x.heap.size x z) (hv : z.ownsRow B 5 1 (.slice Av b.length cv) b.length (u8s b)) (hbl : b.length ≤ 1048576) :
    FrT base x (z.setCell ⟨g, i * 2 + 1, none⟩ (.slice Av b.length cv)) ∧ RefAt (z.setCell ⟨g, i * 2 + 1, none⟩ (.slice Av b.length cv)) base rb { S with pages := put S.pages u b } log (.slice (some ⟨g, 0, none⟩) S.pages.length cp) vf vl := by
  have hz := h.below hb
  obtain ⟨cs, h1, h2⟩ := hz.pages
  obtain ⟨h3, cur, hg⟩ := own_blk h2 g rfl
  have hoth : ∀ (k : Nat) (c : Array Value) (t : TypeId), t ≠ 94 → z.heap[k]? = some (.cells c t (0, 0)) → (z.setCell ⟨g, i * 2 + 1, none⟩ (.slice Av b.length cv)).heap[k]? = some (.cells c t (0, 0)) := by
    intro k c t ht hk
    refine ((Fr.setCell [g] z ⟨g, i * 2 + 1, none⟩ _ (by simp)).block k (lt_of_heap hk) ?_).trans hk
    simp only [List.mem_singleton]
    rintro rfl
    rw [hk] at hg
    simp only [Option.some.injEq, Obj.cells.injEq] at hg
    exact ht hg.2.1
  have hU : U8s z _ := fun k c => hoth k c _ (by decide)
  obtain ⟨c, hc, v0, rfl, hv0, hsz⟩ := h1.at_ hi
  have hl : ∀ c ∈ cs, c.length = 2 := h1.forall_left fun c p hh => by obtain ⟨v, rfl, _⟩ := hh; rfl
  refine ⟨(FrT.of_below hb).trans (FrT.of_fr (Fr.setCell [g] z ⟨g, i * 2 + 1, none⟩ _ (by simp)) fun k hk => ?_), ⟨hoth _ _ _ (by decide) hz.blk, hz.hb, ⟨cs.set i [.string u, .slice Av b.length cv], ?_, ?_⟩, ?_, own_keep hz.lrow fun k c => hoth k c _ (by decide), hz.sm⟩⟩
  · simp only [List.mem_singleton] at hk
    subst hk
    exact ⟨h3, fun _ => ⟨cur, _, hg, .inr (.inl rfl)⟩⟩
  · rw [show ({ S with pages := put S.pages u b } : NetSt).pages = S.pages.set i (u, b) from put_set hnd hi]
    exact (h1.mono fun _ _ hh => hh.keep hU).set ⟨_, rfl, ⟨own_u8_keep (own_base hv (Nat.zero_le _)) hU, hbl⟩, hsz⟩
  · have e1 : (put S.pages u b).length = S.pages.length := by rw [put_set hnd hi]; simp
    rw [show ({ S with pages := put S.pages u b } : NetSt).pages.length = S.pages.length from e1, ← flat_set hl hc]
    exact own_set _ h2
  · obtain ⟨ds, h5, h6⟩ := hz.faults
    exact ⟨ds, h5.mono fun _ _ hh => hh.keep hU, own_keep h6 fun k c => hoth k c _ (by decide)⟩

/-- a page more in the reference's row -/
theorem page_fin {z z2 : World} {base rb g cap : Nat} {S : NetSt} {log : List ByteArray} {vp vf vl v : Value} {u : ByteArray} {d : List UInt8} {cs : List (List Value)} (h : RefAt z base rb S log vp vf vl) (h1 : All2 (RPg z) cs S.pages) (h2 : z.ownsRow base 94 2 vp S.pages.length cs.flatten)
    (hown : z2.ownsRow base 94 2 (.slice (some ⟨g, 0, none⟩) (S.pages.length + 1) cap) (S.pages.length + 1) (cs.flatten ++ [.string u, v])) (hg : z.grownBy z2 vp.ownBlock) (hd : RData z v d) (hu : u.size ≤ 1048576) :
    FrT base z (z2.setCell ⟨rb, 0, none⟩ (.slice (some ⟨g, 0, none⟩) (S.pages.length + 1) cap)) ∧
      RefAt (z2.setCell ⟨rb, 0, none⟩ (.slice (some ⟨g, 0, none⟩) (S.pages.length + 1) cap)) base rb { S with pages := S.pages ++ [(u, d)] } log (.slice (some ⟨g, 0, none⟩) (S.pages.length + 1) cap) vf vl := by
  obtain ⟨ht, hrb2, hrow2⟩ := grew (i := 0) (nv := .slice (some ⟨g, 0, none⟩) (S.pages.length + 1) cap) (.inr (.inl rfl)) h2 hg h.blk h.hb (by decide)
  have hU : U8s z _ := fun g cs => ht.other g cs _ (by decide) (by decide)
  obtain ⟨ds, h5, h6⟩ := h.faults
  refine ⟨ht.fr, ?_, h.hb, ⟨cs ++ [[.string u, v]], (h1.mono fun _ _ hh => hh.keep hU).append ⟨v, rfl, hd.keep hU, hu⟩, ?_⟩, ⟨ds, h5.mono fun _ _ hh => hh.keep hU, own_keep h6 fun k c => ht.other k c _ (by decide) (by decide)⟩, own_keep h.lrow fun k c => ht.other k c _ (by decide) (by decide), h.sm⟩
  · rw [heap_setCell_at hrb2]
    rfl
  · rw [show ({ S with pages := S.pages ++ [(u, d)] } : NetSt).pages.length = S.pages.length + 1 by simp, List.flatten_append]
    have e2 : ([[Value.string u, v]] : List (List Value)).flatten = [.string u, v] := by simp
    rw [e2]
    exact own_keep hown hrow2

def RefSetPost (w : World) (base rb : Nat) (S : NetSt) (log : List ByteArray) (vp vf vl : Value) (u : ByteArray) (b : List UInt8) (e : Ending) (w' : World) : Prop :=
  FrT base w w' ∧ ((fitsB u = false ∧ e = .returned (.int .i64 13) ∧ RefAt w' base rb S log vp vf vl) ∨ (fitsB u = true ∧ e = .returned (.int .i64 0) ∧ ∃ vp', RefAt w' base rb { S with pages := put S.pages u b } log vp' vf vl))

set_option maxHeartbeats 2000000 in
set_option maxRecDepth 100000 in
theorem rset_any (w : World) (base rb : Nat) (S : NetSt) (log : List ByteArray) (vp vf vl : Value) (u : ByteArray) (b : List UInt8) (A : Option Addr) (c : Nat) (h : RefAt w base rb S log vp vf vl) (hd0 : ∀ x, FrT base w x → Bs x A c b) (hbl : b.length ≤ 1048576) (hu : u.size ≤ 1048576)
    (hnd : (S.pages.map (·.1)).Nodup) (hpl : S.pages.length ≤ 1000000) :
    Calls Try.prog 23 #[.pointer (some ⟨rb, 0, none⟩), .string u, .slice A b.length c] w (RefSetPost w base rb S log vp vf vl u b) := by
  have H := Lib.hid h
  have Hd := Lib.hid (hd0 w (FrT.refl _ _))
  have Hd0 := Lib.hid hd0
  have Hnd := Lib.hid hnd
  obtain ⟨i0, hi0, hz0, hz1, hz2⟩ := info_parts infoPage2
  have hu63 : u.size ≤ 9223372036854775807 := by omega
  clear h hd0 hnd
  cases hfit : fitsB u with
  | false =>
    go_enter Try.func23, Try.ntmps23
    go_wp2_with (first | (go_at_call 37; refine (long_any _ _ hu63).mono ?_; rintro e w' ⟨rfl, rfl⟩; rw [hfit]))
    go_ret
    exact ⟨FrT.refl _ _, .inl ⟨hfit, rfl, H.out⟩⟩
  | true =>
    go_enter Try.func23, Try.ntmps23
    go_wp2_with (first | (go_at_call 37; refine (long_any _ _ hu63).mono ?_; rintro e w' ⟨rfl, rfl⟩; rw [hfit]))
    refine (page_any _ base rb S log vp vf vl u H.out).mono ?_
    rintro e w1 ⟨r, rfl, hr, n1, rfl⟩
    rcases hr with ⟨i, ⟨pu, d0⟩, hp, hpu, hfirst, rfl⟩ | ⟨hnone, rfl⟩
    · dsimp only at hpu
      subst hpu
      clear hfirst
      obtain ⟨g, cp, v0, rfl, q0, q1, _, _⟩ := H.out.page_at hp
      obtain ⟨cs, h1, h2⟩ := H.out.pages
      have hlt := (List.getElem?_eq_some_iff.1 hp).1
      have c0 := blk_cells H.out.blk
      obtain ⟨_, cur, hg⟩ := own_blk h2 g rfl
      have cg := blk_cells hg
      have f1 := cg.2.1 (i * 2 + 1)
      have hir : (0 : Int) ≤ i := by omega
      have hil : (i : Int) < S.pages.length := by omega
      have Hp := Lib.hid hp
      have H1 := Lib.hid h1
      have H2 := Lib.hid h2
      have Hg := Lib.hid hg
      have c00 := c0.1 0
      simp at c00
      have glt := cg.2.2
      have rlt := c0.2.2
      clear hp h1 h2 hg cg c0 q0
      go_wp2_with fail
      go_region_with (go_at_call 39; refine (bytes_any b A c _ hbl (Hd.out.keep (Cells.drewN w (n1 + 1)))).mono ?_; rintro e z ⟨v, rfl, hv, hby⟩; obtain ⟨Av, cv, rfl, _⟩ := own_form hv; have z0 := hby.block rb rlt; have z9 := hby.block g glt; have z1 := (World.cell?_of_block (a := ⟨rb, 0, none⟩) z0).trans c00; have z2 := (World.frozen?_of_block (a := ⟨g, i * 2 + 1, none⟩) z9).trans f1; have z3 := (World.cell?_of_block (a := ⟨g, i * 2 + 1, none⟩) z9).trans q1; clear z0 z9; have hv := Lib.hid hv; have hby := Lib.hid hby)
      all_goals
        go_wp2
        go_ret
        obtain ⟨r1, r2⟩ := set_fin (H.out.drewN (n1 + 1)) Hp.out Hnd.out hby.out hv.out hbl
        exact ⟨(FrT.drewN base w (n1 + 1)).trans r1, .inr ⟨hfit, rfl, _, r2⟩⟩
    · obtain ⟨cs, h1, h2⟩ := H.out.pages
      obtain ⟨Ap, cp, rfl, _⟩ := own_form h2
      have c0 := blk_cells H.out.blk
      have c00 := c0.1 0
      have f00 := c0.2.1 0
      simp at c00
      have rlt := c0.2.2
      have Hnone := Lib.hid hnone
      have H1 := Lib.hid h1
      have H2 := Lib.hid h2
      have hownZ : ∀ o, ((w.drewN n1).alloc o).ownsRow base 94 2 (.slice Ap S.pages.length cp) S.pages.length cs.flatten := fun o => own_keep h2 fun g c hg => (Below.heap_alloc (w.drewN n1) o g (lt_of_heap hg)).trans hg
      have hbz : base ≤ w.heap.size := Nat.le_trans H.out.hb (Nat.le_of_lt rlt)
      have hn1 : some rb ≠ (Value.slice Ap S.pages.length cp).ownBlock := fun e => by
        obtain ⟨_, cur, h5⟩ := own_blk h2 rb e.symm
        rw [H.out.blk] at h5
        simp at h5
      have hone : ∀ v ∈ [Value.string u, .slice none 0 0], v.oneCell' = true := by
        intro v hv
        simp only [List.mem_cons, List.not_mem_nil, or_false] at hv
        rcases hv with rfl | rfl <;> rfl
      have hnw : ∀ j v, [Value.string u, .slice none 0 0][j]? = some v → ((w.drewN n1).alloc (.cells #[.string u, .slice none 0 0] 94)).cell? ((⟨w.heap.size, 0, none⟩ : Addr).add j) = some v :=
        fun j v hv => World.news_of_block (w := (w.drewN n1).alloc _) (heap_alloc_new (w.drewN n1) _) j v hv
      have Hown := Lib.hid hownZ
      have Hone := Lib.hid hone
      have Hnw := Lib.hid hnw
      clear hnone h1 h2 c0 hownZ hone hnw
      go_wp2_with (first | (at_builtin; refine wpList_append_lies _ rfl _ _ 50 rfl base 94 i0 (.agg #[.string ⟨#[]⟩, .slice none 0 0]) 2 40 Try.underlying50 hi0 hz0 hz1 hz2 rfl (by omega) (.slice Ap S.pages.length cp) S.pages.length cs.flatten rfl (Hown.out _) ⟨w.heap.size, 0, none⟩ 1 1 [.string u, .slice none 0 0] rfl rfl Hnw.out Hone.out (by omega) (by simp [maxLen]; omega) (by omega) (by simp; omega) (w.heap.size + 1) (by simp) ?_))
      intro g cap z2 hown hgrow hat hlt2
      have hfz := (hgrow.frozen_far ⟨rb, 0, none⟩ (by simp; omega) hn1).trans ((World.frozen?_of_block (a := ⟨rb, 0, none⟩) (Below.heap_alloc (w.drewN n1) _ rb rlt)).trans f00)
      have hcl := (hgrow.cell_far ⟨rb, 0, none⟩ (by simp; omega) hn1).trans ((World.cell?_of_block (a := ⟨rb, 0, none⟩) (Below.heap_alloc (w.drewN n1) _ rb rlt)).trans c00)
      have Hgrow := Lib.hid hgrow
      have Hrow := Lib.hid hown
      clear hgrow hown hat
      have Hlast : Hid ((S.pages ++ [(u, ([] : List UInt8))])[S.pages.length]? = some (u, [])) := Lib.hid (by simp)
      have Hnd1 : Hid (((S.pages ++ [(u, ([] : List UInt8))]).map (·.1)).Nodup) := Lib.hid (by
        rw [List.map_append, List.nodup_append]
        refine ⟨Hnd.out, by simp, fun a ha b hb => ?_⟩
        simp at hb
        subst hb
        obtain ⟨p, hp, e⟩ := List.mem_map.1 ha
        rw [← e]
        exact Hnone.out p hp)
      have Hput : Hid (put (S.pages ++ [(u, ([] : List UInt8))]) u b = put S.pages u b) := Lib.hid (by
        rw [put_set Hnd1.out Hlast.out, put_new Hnone.out, List.set_append_right _ _ (Nat.le_refl _)]
        simp)
      go_wp2_with fail
      have hbz0 : Below w.heap.size w ((w.drewN n1).alloc (.cells #[.string u, .slice none 0 0] 94)) := (Below.refl w.heap.size (w.drewN n1)).alloc (Nat.le_refl _) _ |> fun h => ⟨h.os, h.tape, h.output, h.size, h.block⟩
      have hR0 := H.out.below hbz0
      obtain ⟨r1, r2⟩ := page_fin hR0 (H1.out.mono fun _ _ hh => hh.keep fun g c hg => (hbz0.block g (lt_of_heap hg)).trans hg) (Hown.out _) Hrow.out Hgrow.out (d := []) ⟨World.ownsRow_nil _ _ _ _, by simp⟩ hu
      have r1 := (FrT.of_below (base := base) hbz0).trans r1
      generalize z2.setCell ⟨rb, 0, none⟩ (.slice (some ⟨g, 0, none⟩) (S.pages.length + 1) cap) = x at *
      have HR := Lib.hid r2
      have HF := Lib.hid r1
      have d0 := blk_cells r2.blk
      have d00 := d0.1 0
      simp at d00
      obtain ⟨ps, p1, p2⟩ := r2.pages
      obtain ⟨gx, q0, v0, he, k1, q1, k2, k3⟩ := r2.page_at Hlast.out
      simp only [Value.slice.injEq, Option.some.injEq, Addr.mk.injEq] at he
      obtain ⟨⟨hg1, k4⟩, k5, hc1⟩ := he
      subst hg1 hc1
      clear k1 k2 k3 k4 k5
      obtain ⟨k6, cur, hg⟩ := own_blk p2 g rfl
      have cg := blk_cells hg
      have f1 := cg.2.1 (S.pages.length * 2 + 1)
      have glt := cg.2.2
      have rltx := d0.2.2
      have hbx : Bs x A c b := Hd0.out x HF.out
      have Hbx := Lib.hid hbx
      clear r1 r2 d0 p1 p2 hg cg hfz hcl hR0 hbz0 hbx c00 f00 hn1 k6
      have hir : (0 : Int) ≤ S.pages.length := by omega
      have hil : (S.pages.length : Int) < (S.pages.length : Int) + 1 := by omega
      go_region_with (go_at_call 39; refine (bytes_any b A c x.drew hbl (Hbx.out.keep (fun _ _ hh => hh))).mono ?_; rintro e z ⟨v, rfl, hv, hby⟩; obtain ⟨Av, cv, rfl, _⟩ := own_form hv; have z0 := hby.block rb rltx; have z9 := hby.block g glt; have z1 := (World.cell?_of_block (a := ⟨rb, 0, none⟩) z0).trans d00; have z2 := (World.frozen?_of_block (a := ⟨g, S.pages.length * 2 + 1, none⟩) z9).trans f1; have z3 := (World.cell?_of_block (a := ⟨g, S.pages.length * 2 + 1, none⟩) z9).trans q1; clear z0 z9; have hv := Lib.hid hv; have hby := Lib.hid hby)
      all_goals
        go_wp2
        go_ret
        have e1 : (S.pages ++ [(u, ([] : List UInt8))]).length = S.pages.length + 1 := by simp
        have hR := HR.out.drewN 1
        rw [← e1] at hR
        obtain ⟨r1, r2⟩ := set_fin (S := { S with pages := S.pages ++ [(u, [])] }) hR Hlast.out Hnd1.out hby.out hv.out hbl
        dsimp only at r2
        rw [Hput.out] at r2
        exact ⟨(HF.out.trans (FrT.drewN base x 1)).trans r1, .inr ⟨hfit, rfl, _, r2⟩⟩
end Go.Proofs.Ytpblaclhfcomeaa
