/-
  settle: the walk.
-/
import Derived.Test.YtaolddgnannojaaGreatDoorG12
import Derived.Laws.EntriesVeiled
import Derived.Sort.MapsRangeIn
namespace Go.Proofs.YtaolddgnannojaaGreatDoor
open Go.RowKit Go.Maps

attribute [local go_sem] lt1 lt2 lt3 lt4 lt5 lt6

theorem row_slk {w : World} {base n k : Nat} {t : TypeId} {v : Value} {xs : List Value} (h : w.ownsRow base t k v n xs) : ∃ A cap, v = .slice A n cap ∧ Sl w A cap n k xs ∧ ∀ a, A = some a → a.off = 0 ∧ a.spot = none := by
  rcases h.2 with ⟨rfl, rfl⟩ | ⟨g, cap, cur, rfl, hb, hg, hnc, hcm, hsz, htk⟩
  · exact ⟨none, 0, rfl, ⟨h.1, fun _ => ⟨rfl, rfl⟩, Nat.le_refl _, by unfold maxLen; omega, by omega⟩, by simp⟩
  · refine ⟨_, _, rfl, ⟨h.1, by simp, hnc, hcm, fun hn => ⟨g, 0, rfl, fun j hj => ?_⟩⟩, by simp⟩
    rw [Nat.zero_add, cell_of_row w g j cur t (0, 0) hg, ← htk, List.getElem?_take, if_pos hj]
    simp
theorem flat_at {k : Nat} : ∀ {cs : List (List Value)} {i : Nat} {c : List Value} (_ : ∀ c ∈ cs, c.length = k) (_ : cs[i]? = some c) {j : Nat} (_ : j < k), cs.flatten[i * k + j]? = c[j]?
  | [], i, c, _, hi, j, _ => by simp at hi
  | d :: cs, 0, c, hl, hi, j, hj => by
    simp at hi
    subst hi
    have := hl d (by simp)
    simp [List.getElem?_append, this, hj]
  | d :: cs, i + 1, c, hl, hi, j, hj => by
    have hd := hl d (by simp)
    have ih := flat_at (cs := cs) (i := i) (c := c) (fun c hc => hl c (by simp [hc])) (by simpa using hi) hj
    have hm : (i + 1) * k + j = k + (i * k + j) := by rw [Nat.succ_mul]; omega
    rw [List.flatten_cons, hm, List.getElem?_append_right (by omega), hd, Nat.add_sub_cancel_left]
    exact ih
theorem All2.left_all {α β : Type} {Q : α → β → Prop} {R : α → Prop} (hq : ∀ a b, Q a b → R a) : ∀ {l : List α} {m : List β}, All2 Q l m → ∀ a ∈ l, R a
  | [], _, _, a, ha => by simp at ha
  | x :: l, y :: m, h, a, ha => by
    rcases List.mem_cons.1 ha with rfl | ha
    · exact hq _ _ h.1
    · exact All2.left_all hq h.2 a ha
  | _ :: _, [], h, _, _ => h.elim
theorem FsAt.pend_at {w : World} {M : FsMem} {S : FsSt} (h : FsAt w M S) {k : Nat} {p : Pend} (hk : S.pend[k]? = some p) :
    ∃ g c v, M.pv = .slice (some ⟨g, 0, none⟩) S.pend.length c ∧ w.cell? ⟨g, k * 3, none⟩ = some (.string p.dir) ∧ w.cell? ⟨g, k * 3 + 1, none⟩ = some (.int .i64 (p.file : Nat)) ∧ w.cell? ⟨g, k * 3 + 2, none⟩ = some v ∧ ChgAt w p.chg v := by
  obtain ⟨cs, h1, h2⟩ := h.pend
  have hl := h1.length
  obtain ⟨hkl, rfl⟩ := List.getElem?_eq_some_iff.1 hk
  have hc : cs[k]? = some (cs[k]'(by omega)) := List.getElem?_eq_getElem (by omega)
  obtain ⟨v, e, hv⟩ := All2.at2 h1 hc hk
  have h3 : ∀ c ∈ cs, c.length = 3 := h1.left_all fun a b hab => by obtain ⟨v, rfl, _⟩ := hab; rfl
  obtain ⟨A, cap, hpv, hsl, hz⟩ := row_slk h2
  obtain ⟨g, o, hA, hx⟩ := hsl.cells (by omega)
  obtain ⟨ho, _⟩ := hz _ hA
  simp only at ho
  subst ho
  subst hA
  refine ⟨g, cap, v, hpv, ?_, ?_, ?_, hv⟩
  · have := hx (k * 3 + 0) (by omega)
    rw [flat_at h3 hc (by omega), e] at this
    simpa using this
  · have := hx (k * 3 + 1) (by omega)
    rw [flat_at h3 hc (by omega), e] at this
    simpa using this
  · have := hx (k * 3 + 2) (by omega)
    rw [flat_at h3 hc (by omega), e] at this
    simpa using this
theorem All2.drop {α β : Type} {Q : α → β → Prop} : ∀ (k : Nat) {l : List α} {m : List β}, All2 Q l m → All2 Q (l.drop k) (m.drop k)
  | 0, _, _, h => h
  | k + 1, [], [], _ => by simp [All2]
  | k + 1, _ :: _, _ :: _, h => by simpa using All2.drop k h.2
  | _ + 1, [], _ :: _, h => h.elim
  | _ + 1, _ :: _, [], h => h.elim
theorem flat_drop {m : Nat} : ∀ (k : Nat) {cs : List (List Value)}, (∀ c ∈ cs, c.length = m) → k ≤ cs.length → (cs.drop k).flatten = cs.flatten.drop (k * m)
  | 0, cs, _, _ => by simp
  | k + 1, [], _, h => by simp at h
  | k + 1, c :: cs, h, hk => by
    have hc := h c (by simp)
    rw [List.drop_succ_cons, flat_drop k (fun d hd => h d (by simp [hd])) (by simpa using hk), List.flatten_cons, List.drop_append]
    have e : (k + 1) * m - c.length = k * m := by rw [hc, Nat.succ_mul]; omega
    have e2 : c.drop ((k + 1) * m) = [] := List.drop_of_length_le (by rw [hc, Nat.succ_mul]; omega)
    rw [e, e2, List.nil_append]
/-- a round of the durable changes -/
def SetRel (w : World) (M : FsMem) (S : FsSt) (n : Nat) (iv : Value) (wr : World) : Prop :=
  ∃ k, k ≤ n ∧ iv = .int .i64 (k : Nat) ∧ FsAt wr M { S with dur := durOf S.dur (S.pend.take k) } ∧ Gr M w M wr
/-- room for the durable names while they change -/
def DurRoom (S : FsSt) (n : Nat) : Prop := ∀ k, k ≤ n → Maps.size (durOf S.dur (S.pend.take k)) ≤ 1099511627776
/-- a round of the count over a map of names -/
def CntRel (w0 : World) (um bu r b : Nat) (D : Dm) (L0 : List Nat) (T : Nat) (wr : World) : Prop :=
  ∃ left cnt t f, wr.ranges Tryz.prog 9 (plainElem Tryz.prog 3) b r (Maps.size D) D left cnt ∧ UsedAt wr um t f ∧ Counted L0 D left f ∧ t + cnt ≤ T ∧ Below w0.heap.size w0 wr ∧ wr.heap[bu]? = some (.cells #[.map (some um)] 91 (0, 0))
/-- a round of the count over pending changes -/
def PRel (w0 : World) (um bu : Nat) (L0 : List Nat) (ps : List Pend) (T : Nat) (iv : Value) (wr : World) : Prop :=
  ∃ j t f, j ≤ ps.length ∧ iv = .int .i64 (j : Nat) ∧ UsedAt wr um t f ∧ (∀ k, f k ≠ 0 ↔ k ∈ L0 ++ (ps.take j).map (·.file)) ∧ t ≤ T + j ∧ Below w0.heap.size w0 wr ∧ wr.heap[bu]? = some (.cells #[.map (some um)] 91 (0, 0))
theorem strInv : ∀ key kl, keyOf Tryz.prog 9 key = some kl → ∃ x, key = Value.string x := fun _ _ h => Maps.keyOf_string_inv Tryz.underlying9 h
theorem intInv : ∀ (v : Value) (y : Dm × List MemPlace), plainElem Tryz.prog 3 v = some y → ∃ c, v = Value.int .i64 c := fun _ _ h => by
  obtain ⟨c, rfl, _⟩ := plainElem_int_inv Tryz.underlying3 h
  exact ⟨c, rfl⟩
set_option maxHeartbeats 8000000 in
set_option maxRecDepth 10000 in
theorem settle_any (w : World) (M : FsMem) (S : FsSt) (K : Nat) (h : FsAt w M S) (hi : FsInv K S) (hK : K ≤ 1048576) (n : Nat) (hn : n ≤ S.pend.length) (hr : DurRoom S n) :
    Calls Tryz.prog 29 #[.pointer (some ⟨M.fb, 0, none⟩), .int .i64 (n : Nat)] w (ChsPost w M (S.settle n)) := by
  obtain ⟨P, hP⟩ : ∃ P, P = ChsPost w M (S.settle n) := ⟨_, rfl⟩
  rw [← hP]
  have HP := Lib.hid hP
  have H := Lib.hid h
  obtain ⟨cs, p1, p2⟩ := h.pend
  obtain ⟨Ap, cp, hpv, hsl, hz⟩ := row_slk p2
  have c6 : w.cell? ⟨M.fb, 6, none⟩ = some M.pv := (blk_cells h.blk).1 6
  have Hpv := Lib.hid hpv
  rw [hpv] at c6
  have hle := hsl.le
  have hbig := hsl.big
  have hcutl := slice_loC Ap S.pend.length cp n hn
  have hcut := slice_hiC Ap S.pend.length cp n (by omega)
  have hpl := hi.pends
  clear hP h p1 p2 hsl hpv hz
  go_enter Tryz.func29, Tryz.ntmps29
  go_wp2_with fail
  go_loopw [20] (fun iv wr => SetRel w M S n iv wr) (fun iv _ => n - (intOf iv).toNat)
  case atStart => exact ⟨0, by omega, rfl, by simpa [durOf] using H.out, Gr.refl _ _⟩
  case round =>
    obtain ⟨k, hk, rfl, hat, hgr⟩ := hrel
    by_cases hkn : k < n
    · --QS
      have hkI : (k : Int) < n := by omega
      have hkp : k < S.pend.length := by omega
      obtain ⟨p, hp⟩ : ∃ p, S.pend[k]? = some p := ⟨_, List.getElem?_eq_getElem hkp⟩
      obtain ⟨g, cp', v, hpe, e1, e2, e3, hchg⟩ := hat.pend_at (k := k) (p := p) hp
      obtain ⟨F, cs', hve, eg, hc⟩ := chg_any wr M.dm (durOf S.dur (S.pend.take k)) p.chg v hchg hat.dur (by have := hr k (by omega); unfold maxLen; omega)
      subst hve
      simp only at hpe
      rw [Hpv.out] at hpe
      simp only [Value.slice.injEq, true_and] at hpe
      obtain ⟨hA, hcc⟩ := hpe
      subst hA
      clear hcc
      have c4 : wr.cell? ⟨M.fb, 4, none⟩ = some (.map (some M.dm)) := (hat.cell 4 _ rfl).1
      have hfb := hat.lt M.fb (by simp [FsMem.own])
      have hgb : g < wr.heap.size := World.block_lt_of_cell? wr _ e1
      have hbx : Below wr.heap.size wr (wr.alloc (.cells #[.string p.dir, .int .i64 (p.file : Nat), .func (.func F) #[] cs'] 63)) := (Below.refl _ _).alloc (Nat.le_refl _) _
      have hnew := heap_alloc_new wr (.cells #[.string p.dir, .int .i64 (p.file : Nat), .func (.func F) #[] cs'] 63)
      have hat1 := hat.below hbx
      have hgr1 := hgr.trans (Gr.of_below (M := M) hbx)
      have hchg1 := hchg.kept (S := []) ⟨Fr.of_below hbx [], fun k hk => by simp at hk⟩
      have d2 : (wr.alloc (.cells #[.string p.dir, .int .i64 (p.file : Nat), .func (.func F) #[] cs'] 63)).drew.cell? ⟨wr.heap.size, 2, none⟩ = some (.func (.func F) #[] cs') := (blk_cells hnew).1 2
      have d4 : (wr.alloc (.cells #[.string p.dir, .int .i64 (p.file : Nat), .func (.func F) #[] cs'] 63)).drew.cell? ⟨M.fb, 4, none⟩ = some (.map (some M.dm)) := (hat1.cell 4 _ rfl).1
      have Hat := Lib.hid hat1
      have Hgr := Lib.hid hgr1
      have Hchg := Lib.hid hchg1
      clear hat hgr hchg hc hbx hat1 hgr1 hchg1 hnew
      go_wp2_with fail
      generalize wr.alloc (.cells #[.string p.dir, .int .i64 (p.file : Nat), .func (.func F) #[] cs'] 63) = w1 at *
      clear c4 e1 e2 e3 hgb hfb
      obtain ⟨F', cs2, hve, _, hc⟩ := chg_any w1.drew M.dm (durOf S.dur (S.pend.take k)) p.chg _ Hchg.out Hat.out.dur (by have := hr k (by omega); unfold maxLen; omega)
      cases hve
      with_reducible refine g_mix [(0, none), (1, none), (2, none), (3, none), (4, none), (5, none), (6, some true)] (fun w' => w'.cell? ⟨wr.heap.size, 2, none⟩ = some (.func (.func F) #[] cs') ∧ w'.cell? ⟨M.fb, 4, none⟩ = some (.map (some M.dm))) (by kernel_rfl) (by kernel_rfl) ?_
      intro OPS
      simp only [mixOf, nthO, consO]
      iterate 6 ((with_reducible refine m_val (v := ?_) ?_ ?_ ?_); rotate_left; (rintro _ ⟨h1, h2⟩; go_simp; first | done | rfl | (constructor <;> rfl)); exact ⟨d2, d4⟩)
      with_reducible refine m_one ?_
      refine l_call (f := F) (args := #[.map (some M.dm)] ++ cs') ?_ ?_
      · go_simp
      refine hc.mono ?_
      rintro e w2 ⟨rfl, hD, hg⟩
      refine ⟨_, rfl, ?_⟩
      with_reducible refine m_last ?_
      with_reducible refine m_end ?_
      simp only [Act.put, List.setIfInBounds_toArray, List.set_cons_zero, List.set_cons_succ]
      obtain ⟨h3, g3⟩ := (show FsAt w1.drew M _ from Hat.out.drewN 1).dured (Fr.of_grown hg) hD ((H.out.natD.durOf _).chg p.chg)
      have htk : S.pend.take (k + 1) = S.pend.take k ++ [p] := by
        rw [List.take_add_one, hp]; rfl
      have Hfin : Hid (SetRel w M S n (.int .i64 ((k : Int) + 1)) w2) := Lib.hid ⟨k + 1, by omega, rfl, by rw [htk, durOf_snoc]; exact h3, Hgr.out.trans ((Gr.drewN M w1 1).trans g3)⟩
      clear h3 g3 hD hg hc d2 d4 Hat Hgr Hchg
      go_wp2_with fail
      go_roundw
      case rel => exact Hfin.out
      case measure => simp [intOf]; omega
    · --QE
      have hkI : ¬ (k : Int) < n := by omega
      obtain rfl : k = n := by omega
      have c6' : wr.cell? ⟨M.fb, 6, none⟩ = some (.slice Ap S.pend.length cp) := by rw [← Hpv.out]; exact (hat.cell 6 _ rfl).1
      obtain ⟨csr, p1, p2⟩ := hat.pend
      have hsl : Sl wr Ap cp S.pend.length 3 csr.flatten := by
        obtain ⟨A2, c2, e2, h2, _⟩ := row_slk p2
        rw [Hpv.out] at e2
        simp only [Value.slice.injEq, true_and] at e2
        obtain ⟨rfl, rfl⟩ := e2
        exact h2
      have h3 : ∀ c ∈ csr, c.length = 3 := p1.left_all fun a b hab => by obtain ⟨v, rfl, _⟩ := hab; rfl
      have hone : ∀ u ∈ csr.flatten, u.oneCell' = true := fun u hu => by
        obtain ⟨c, hc, huc⟩ := List.mem_flatten.1 hu
        refine (p1.left_all (R := fun c => ∀ u ∈ c, u.oneCell' = true) (fun a b hab => ?_)) c hc u huc
        obtain ⟨v, rfl, hv⟩ := hab
        refine one_change ?_
        cases hb : b.chg with
        | put n k => rw [hb] at hv; obtain ⟨_, _, _, _, rfl, _⟩ := hv; rfl
        | move n n' k => rw [hb] at hv; obtain ⟨_, _, _, _, _, _, rfl, _⟩ := hv; rfl
        | del n => rw [hb] at hv; obtain ⟨_, _, rfl, _⟩ := hv; rfl
      have hcl := clone_any wr _ _ _ _ (hsl.cutC hn) (fun u hu => hone u (List.mem_of_mem_drop hu)) (by omega)
      have Hcl := Lib.hid hcl
      have Hat := Lib.hid hat
      have Hgr := Lib.hid hgr
      have P1 := Lib.hid p1
      have H3 := Lib.hid h3
      clear hat hgr p1 p2 hsl h3 hone hcl c6 hcut
      go_wp2_with fail
      refine Hcl.out.mono ?_
      rintro e w2 ⟨v2, rfl, ho2, hb2⟩
      obtain ⟨Av, cv, hv2⟩ := own_formT ho2
      have hfr2 : Fr (M.fb :: M.pv.ownBlock.toList) wr w2 := Fr.of_below hb2 _
      have hblk2 := (hb2.block _ (lt_of_heap Hat.out.blk)).trans Hat.out.blk
      have q6 : w2.cell? ⟨M.fb, 6, none⟩ = some (.slice Ap S.pend.length cp) := by rw [(blk_cells hblk2).1 6, ← Hpv.out]; rfl
      have f6 : w2.frozen? ⟨M.fb, 6, none⟩ = false := (blk_cells hblk2).2.1 6
      have hblk3 := heap_setCell_at hblk2 6 v2
      have hfr3 : Fr [M.fb] w2 (w2.setCell ⟨M.fb, 6, none⟩ v2) := Fr.setCell _ _ _ _ (by simp)
      have hnew : ∀ g, v2.ownBlock = some g → wr.heap.size ≤ g := fun g hg => (own_blk ho2 g hg).1
      have hfr : Fr (M.fb :: M.pv.ownBlock.toList) wr (w2.setCell ⟨M.fb, 6, none⟩ v2) := hfr2.trans (hfr3.more fun k hk => by rw [List.mem_singleton.1 hk]; simp)
      have hfm : Frm (M.fb :: M.pv.ownBlock.toList) wr (w2.setCell ⟨M.fb, 6, none⟩ v2) := ⟨hfr, fun k hk _ => Hat.out.mays k (by
        unfold FsMem.own
        rcases List.mem_cons.1 hk with rfl | hk
        · simp
        · simp only [List.mem_cons, List.mem_append]; exact .inr (.inr (.inr (.inr (.inl hk)))))⟩
      have hcl := P1.out.length
      have ho3 : (w2.setCell ⟨M.fb, 6, none⟩ v2).ownsRow 0 63 3 v2 (S.pend.drop k).length (csr.drop k).flatten := by
        rw [List.length_drop, flat_drop k H3.out (by omega)]
        refine row_kept (own_base ho2 (Nat.zero_le _)) hfr3 fun b hb hh => ?_
        have h5 := hnew b hb
        have h6 := lt_of_heap Hat.out.blk
        rw [List.mem_singleton.1 hh] at h5
        omega
      obtain ⟨h4, g4⟩ := Hat.out.pended (S' := { S with dur := durOf S.dur (S.pend.take k), pend := S.pend.drop k }) (pv' := v2) hfr hblk3 ⟨csr.drop k, (P1.out.drop k).mono fun _ _ h => h.kept hfm, ho3⟩ (.inr hnew) rfl rfl rfl
      have H4 := Lib.hid h4
      have G4 := Lib.hid (Hgr.out.trans g4)
      rw [hv2] at H4 G4 ⊢
      clear ho2 hb2 hv2 hfr2 hblk2 hblk3 hfr3 hnew hfr hfm hcl ho3 h4 g4 P1 H3 Hcl Hat Hgr c6'
      go_wp2_with fail
      generalize w2.setCell ⟨M.fb, 6, none⟩ (.slice Av (S.pend.length - k) cv) = w3 at *
      have hmm := @run_makeMap Tryz.prog
      obtain ⟨M3, hM3⟩ : ∃ X, X = { M with pv := Value.slice Av (S.pend.length - k) cv } := ⟨_, rfl⟩
      rw [← hM3] at H4 G4
      have hfb : M.fb = M3.fb := by rw [hM3]
      have hnmE : M.nm = M3.nm := by rw [hM3]
      rw [hfb]
      have HPv3 : Hid (M3.pv = .slice Av (S.pend.length - k) cv) := Lib.hid (by rw [hM3])
      clear hM3 hfb hnmE
      obtain ⟨S3, hS3⟩ : ∃ X, X = { S with dur := durOf S.dur (S.pend.take k), pend := S.pend.drop k } := ⟨_, rfl⟩
      rw [← hS3] at H4
      have HS3 := Lib.hid hS3
      clear hS3 f6 q6 hcutl
      have c3 : w3.cell? ⟨M3.fb, 3, none⟩ = some (.map (some M3.nm)) := (H4.out.cell 3 _ rfl).1
      have hfb3 := H4.out.lt M3.fb (by simp [FsMem.own])
      rw [hmm]
      simp only [Result.andThen, Oper.upon_value]
      have hHN : OwnN ((w3.alloc (.map #[] 0)).alloc (.cells #[.map (some w3.heap.size)] 91)) M3.nm S3.names := (H4.out.names.alloc _).alloc _
      have HN := Lib.hid hHN
      clear hHN
      go_wp2_with (first
        | (at_range; refine wpList_range_own _ rfl _ 46 rfl 9 3 strK Tryz.underlying46 (plainElem Tryz.prog 3) M3.nm (Maps.size S3.names) S3.names rfl HN.out ?_; intro w5 hrg5 hg5 hs5)
        | go_in)
      go_frame
      have e1 : ((w3.alloc (.map #[] 0)).alloc (.cells #[.map (some w3.heap.size)] 91)).heap.size = w3.heap.size + 1 + 1 := by simp
      rw [e1] at hrg5 hs5
      try rw [e1]
      have hb5 : Below w3.heap.size w3 w5 := (((Below.refl w3.heap.size w3).alloc (Nat.le_refl _) _).alloc (by simp) _).grown hg5 (by simp; omega) (by simp)
      have hbu5 : w5.heap[w3.heap.size + 1]? = some (.cells #[.map (some w3.heap.size)] 91 (0, 0)) := by
        refine (hg5.block _ (by simp) (by simp)).trans ?_
        simpa using heap_alloc_new (w3.alloc (.map #[] 0)) (.cells #[.map (some w3.heap.size)] 91)
      have hu5 : UsedAt w5 w3.heap.size 0 (fun _ => 0) := ((UsedAt.made w3).kept ((Fr.alloc [] _ _).trans (show Fr [] _ w5 from Fr.of_grown hg5)) (by simp))
      have Hrel0 : Hid (CntRel w3 w3.heap.size (w3.heap.size + 1) (w3.heap.size + 1 + 1) M3.nm S3.names [] (Maps.size S3.names) w5) := Lib.hid ⟨_, _, 0, _, hrg5, hu5, Counted.start (by simp) _, by omega, hb5, hbu5⟩
      clear hrg5 hg5 hs5 hb5 hbu5 hu5 e1 HN c3 hfb3 hmm
      generalize hum : w3.heap.size = um at *
      have Hum := Lib.hid hum
      clear hum
      go_loopw [8] (fun _ wr => CntRel w3 um (um + 1) (um + 1 + 1) M3.nm S3.names [] (Maps.size S3.names) wr) (fun _ wr => wr.rangeLeft M3.nm (um + 1 + 1))
      case atStart => exact Hrel0.out
      case round =>
        obtain ⟨left, cnt, t, f, hrg, hu, hct, htc, hbl, hbu⟩ := hrel
        have HL := Lib.hid hrg.left_eq
        have Hu := Lib.hid hu
        have Hct := Lib.hid hct
        have Hbl := Lib.hid hbl
        have Hbu := Lib.hid hbu
        clear hu hct hbl hbu
        go_wp2_with (first
          | (at_next; refine wpList_next_ranges _ rfl _ rfl 9 strK (plainElem Tryz.prog 3) Value.string (Value.int .i64) strInv intInv M3.nm (um + 1 + 1) (Maps.size S3.names) _ _ _ rfl hrg ?_ ?_)
          | go_in)
        · intro hc0 hl0
          have hwN : ∀ j, f j ≠ 0 ↔ j ∈ vals S3.names := fun j => by
            rw [Hct.out.end_ hl0 (H4.out.names.canon strK) H4.out.natN j, List.nil_append]
          have HWN := Lib.hid hwN
          have hbD := H4.out.below Hbl.out
          have c4 : wr.cell? ⟨M3.fb, 4, none⟩ = some (.map (some M3.dm)) := (hbD.cell 4 _ rfl).1
          have HND := Lib.hid hbD.dur
          have hrr : um + 1 < wr.heap.size := lt_of_heap Hbu.out
          clear hwN hbD hrg
          go_wp2_with (first
            | (at_range; refine wpList_range_own _ rfl _ 46 rfl 9 3 strK Tryz.underlying46 (plainElem Tryz.prog 3) M3.dm (Maps.size S3.dur) S3.dur rfl HND.out ?_; intro w5 hrg5 hg5 hs5)
            | go_in)
          go_frame
          have hb5 : Below w3.heap.size w3 w5 := Hbl.out.grown hg5 (by have := Hbl.out.size; omega) (by simp)
          have hbu5 := (hg5.block _ (lt_of_heap Hbu.out) (by simp)).trans Hbu.out
          have hu5 := Hu.out.kept (show Fr [] wr w5 from Fr.of_grown hg5) (by simp)
          have Hrel1 : Hid (CntRel w3 um (um + 1) wr.heap.size M3.dm S3.dur (vals S3.names) (Maps.size S3.names + Maps.size S3.dur) w5) := Lib.hid ⟨_, _, t, _, hrg5, hu5, Counted.start HWN.out _, by omega, hb5, hbu5⟩
          clear hrg5 hg5 hs5 hb5 hbu5 hu5 HND c4 Hu Hct Hbl Hbu
          generalize wr.heap.size = r2 at *
          go_loopw [10] (fun _ wr => CntRel w3 um (um + 1) r2 M3.dm S3.dur (vals S3.names) (Maps.size S3.names + Maps.size S3.dur) wr) (fun _ wr => wr.rangeLeft M3.dm r2)
          case atStart => exact Hrel1.out
          case round =>
            obtain ⟨left, cnt, t, f, hrg, hu, hct, htc, hbl, hbu⟩ := hrel
            have HL := Lib.hid hrg.left_eq
            have Hu := Lib.hid hu
            have Hct := Lib.hid hct
            have Hbl := Lib.hid hbl
            have Hbu := Lib.hid hbu
            clear hu hct hbl hbu
            go_wp2_with (first
              | (at_next; refine wpList_next_ranges _ rfl _ rfl 9 strK (plainElem Tryz.prog 3) Value.string (Value.int .i64) strInv intInv M3.dm r2 (Maps.size S3.dur) _ _ _ rfl hrg ?_ ?_)
              | go_in)
            · intro hc0 hl0
              have hwD : ∀ j, f j ≠ 0 ↔ j ∈ vals S3.names ++ vals S3.dur := Hct.out.end_ hl0 (H4.out.dur.canon strK) H4.out.natD
              have hbD := H4.out.below Hbl.out
              have hpl3 : S3.pend.length = S.pend.length - k := by rw [HS3.out]; exact List.length_drop
              have c6 : wr.cell? ⟨M3.fb, 6, none⟩ = some (.slice Av S3.pend.length cv) := by rw [hpl3, ← HPv3.out]; exact (hbD.cell 6 _ rfl).1
              have hpl4 : S3.pend.length ≤ 1099511627776 := by omega
              have hszD : Maps.size S3.dur ≤ 1099511627776 := by
                rw [HS3.out]
                exact hr k (Nat.le_refl _)
              have hszN : Maps.size S3.names ≤ 1099511627776 := by
                rw [HS3.out]
                have := hi.names.size
                show Maps.size S.names ≤ _
                omega
              have hpk : ∀ p ∈ S3.pend, p.file ≤ 9223372036854775807 := by
                rw [HS3.out]
                intro p hp
                have h9 := hi.pend p (List.mem_of_mem_drop hp)
                cases hb : p.chg with
                | put n k => rw [hb] at h9; have h10 := h9.2.1; have h11 := h9.2.2.1; omega
                | move n n' k => rw [hb] at h9; have h10 := h9.2.2.1; have h11 := h9.2.2.2.1; omega
                | del n => rw [hb] at h9; have h11 := h9.2; omega
              have Hrel2 : Hid (PRel w3 um (um + 1) (vals S3.names ++ vals S3.dur) S3.pend (Maps.size S3.names + Maps.size S3.dur) (.int .i64 0) wr) := Lib.hid ⟨0, t, f, by omega, rfl, Hu.out, by simpa using hwD, by omega, Hbl.out, Hbu.out⟩
              clear hwD hbD hrg Hu Hct Hbl Hbu
              go_wp2_with fail
              go_loopw [74] (fun iv wr => PRel w3 um (um + 1) (vals S3.names ++ vals S3.dur) S3.pend (Maps.size S3.names + Maps.size S3.dur) iv wr) (fun iv _ => S3.pend.length - (intOf iv).toNat)
              case atStart => exact Hrel2.out
              case round =>
                obtain ⟨j, t, f, hj, rfl, hu, hf, ht, hbl, hbu⟩ := hrel
                have hbD := H4.out.below hbl
                by_cases hjn : j < S3.pend.length
                · have hjI : (j : Int) < S3.pend.length := by omega
                  obtain ⟨p, hp⟩ : ∃ p, S3.pend[j]? = some p := ⟨_, List.getElem?_eq_getElem hjn⟩
                  obtain ⟨g, cp', v, hpe, e1, e2, e3, hchg⟩ := hbD.pend_at (k := j) (p := p) hp
                  obtain ⟨F, cs', hve⟩ : ∃ F cs', v = .func (.func F) #[] cs' := by
                    cases hb : p.chg with
                    | put n k => rw [hb] at hchg; obtain ⟨_, _, _, _, rfl, _⟩ := hchg; exact ⟨_, _, rfl⟩
                    | move n n' k => rw [hb] at hchg; obtain ⟨_, _, _, _, _, _, rfl, _⟩ := hchg; exact ⟨_, _, rfl⟩
                    | del n => rw [hb] at hchg; obtain ⟨_, _, rfl, _⟩ := hchg; exact ⟨_, _, rfl⟩
                  subst hve
                  rw [HPv3.out, ← hpl3] at hpe
                  simp only [Value.slice.injEq, true_and] at hpe
                  obtain ⟨hA, hcc⟩ := hpe
                  subst hA
                  clear hcc
                  have hpf : p.file ≤ 9223372036854775807 := hpk p (List.mem_of_getElem? hp)
                  have hgb : g < wr.heap.size := World.block_lt_of_cell? wr _ e1
                  have hu1 := hu.kept (Fr.alloc [] wr (.cells #[.string p.dir, .int .i64 (p.file : Nat), .func (.func F) #[] cs'] 63)) (by simp)
                  have hbx : Below w3.heap.size w3 (wr.alloc (.cells #[.string p.dir, .int .i64 (p.file : Nat), .func (.func F) #[] cs'] 63)) := hbl.alloc hbl.size _
                  have hbu1 := (Below.heap_alloc wr (.cells #[.string p.dir, .int .i64 (p.file : Nat), .func (.func F) #[] cs'] 63) _ (lt_of_heap hbu)).trans hbu
                  have hrun := hu1.run p.file hpf
                  have kbu := box_cell hbu
                  have hbul := lt_of_heap hbu
                  have hfm : f p.file ≤ t := by obtain ⟨_, _, _, h9⟩ := hu; exact h9 _
                  have r1 : IntKind.i64.wrap ((f p.file : Int) + 1) = (f p.file : Int) + 1 := by rw [IntKind.wrap_i64]; omega
                  have hft : ∀ q, bump f p.file q ≠ 0 ↔ q ∈ (vals S3.names ++ vals S3.dur) ++ (S3.pend.take (j + 1)).map (·.file) := fun q => by
                    have htk : S3.pend.take (j + 1) = S3.pend.take j ++ [p] := by rw [List.take_add_one, hp]; rfl
                    rw [bump_ne, hf q, htk, List.map_append]
                    simp only [List.mem_append, List.map_cons, List.map_nil, List.mem_singleton, or_assoc]
                  have Hu1 := Lib.hid hu1
                  have Hbx := Lib.hid hbx
                  have Hbu1 := Lib.hid hbu1
                  have Hft := Lib.hid hft
                  clear hu hu1 hbx hbu1 hft hf hbl hbu hbD hchg
                  go_wp2_with (first
                    | (at_mapUpdate; refine wpList_bump rfl _ _ _ rfl um t p.file f rfl rfl rfl hpf Hu1.out (by omega) ?_)
                    | go_in)
                  intro w7 hu7 hg7
                  have hfr7 : Fr [um] _ w7 := Fr.of_grown hg7
                  have hb7 : Below w3.heap.size w3 w7 := Hbx.out.grown hg7 (by have := Hbx.out.size; omega) (by intro j hj; cases hj; rw [Hum.out]; omega)
                  have Hfin : Hid (PRel w3 um (um + 1) (vals S3.names ++ vals S3.dur) S3.pend (Maps.size S3.names + Maps.size S3.dur) (.int .i64 ((j : Int) + 1)) w7) := Lib.hid ⟨j + 1, t + 1, _, by omega, rfl, hu7, Hft.out, by omega, hb7, (hfr7.block _ (lt_of_heap Hbu1.out) (by simp)).trans Hbu1.out⟩
                  clear hu7 hg7 hfr7 hb7 Hu1 Hbx Hbu1 Hft hrun e1 e2 e3 hgb kbu hbul
                  go_wp2_with fail
                  go_roundw
                  case rel => exact Hfin.out
                  case measure => simp [intOf]; omega
                · have hjI : ¬ (j : Int) < S3.pend.length := by omega
                  obtain rfl : j = S3.pend.length := by omega
                  rw [List.take_length] at hf
                  have hlf := H4.out.lt M3.fm (by simp [FsMem.own])
                  rw [Hum.out] at hlf
                  have cfm : wr.cell? ⟨M3.fb, 1, none⟩ = some (.map (some M3.fm)) := (hbD.cell 1 _ rfl).1
                  have hdel := del_any wr M3.fm S3.files.length (fD S3.files M3.fl) (um + 1) um t f hbD.files hu hbu (by omega) (by omega) (fD_keys _ _)
                  have Hdel := Lib.hid hdel
                  have HbD := Lib.hid hbD
                  have Hbl := Lib.hid hbl
                  have Hf := Lib.hid hf
                  clear hdel hbD hbl hf hu hbu
                  go_wp2_with fail
                  refine Hdel.out.mono ?_
                  rintro e w9 ⟨rfl, ho9, hg9⟩
                  have hq : ∀ n, f n ≠ 0 ↔ (usedL S3.names S3.dur S3.pend).contains n = true := fun n => by
                    rw [Hf.out n, List.contains_iff_mem]
                    rfl
                  obtain ⟨h9, g9⟩ := HbD.out.struck (Fr.of_grown hg9) hq ho9
                  have Hfin : Hid (P (.returned (.tuple #[])) w9) := Lib.hid (by
                    rw [HP.out]
                    have e9 : { S3 with files := S3.files.filter fun e => (usedL S3.names S3.dur S3.pend).contains e.1 } = S.settle k := by
                      rw [HS3.out]
                      rfl
                    rw [← e9]
                    exact ⟨rfl, _, h9, G4.out.trans ((Gr.of_below (M := M3) Hbl.out).trans g9)⟩)
                  clear h9 g9 ho9 hg9 hq
                  go_wp2_with fail
                  go_end0
                  exact Hfin.out
            · intro x c kl y yp w6 cnt6 hkey hlk hv hat hrg6 hlt hg6 hs6 hen
              obtain ⟨c', ec, hy, hwf⟩ := plainElem_int_inv Tryz.underlying3 hv
              cases ec
              obtain ⟨m, hm⟩ := H4.out.natD.2 kl
              have hcm : c = (m : Int) := by
                have h6 := (hat (nval 0)).symm.trans hm
                have hy1 : y = _ := congrArg Prod.fst hy
                rw [hy1] at h6
                simpa [nval] using h6
              subst hcm
              have hy1 : y = nval m := congrArg Prod.fst hy
              subst hy1
              have hfr6 : Fr [r2] wr w6 := Fr.of_grown hg6
              have hu6 := Hu.out.kept hfr6 (by simp; omega)
              have hbl6 : Below w3.heap.size w3 w6 := Hbl.out.grown hg6 (by have := Hbl.out.size; omega) (by intro j hj; cases hj; rw [Hum.out]; omega)
              have hbu6 := (hfr6.block _ (lt_of_heap Hbu.out) (by simp <;> omega)).trans Hbu.out
              have hm9 : m ≤ 9223372036854775807 := by
                exact wf_le hwf
              have hrun := hu6.run m hm9
              have hfm : f m ≤ t := by obtain ⟨_, _, _, h9⟩ := hu6; exact h9 m
              have hcnt : t + cnt ≤ Maps.size S3.names + Maps.size S3.dur := htc
              have hszD : Maps.size S3.dur ≤ 1099511627776 := by
                rw [HS3.out]
                exact hr k (Nat.le_refl _)
              have hszN : Maps.size S3.names ≤ 1099511627776 := by
                rw [HS3.out]
                have := hi.names.size
                show Maps.size S.names ≤ _
                omega
              have r1 : IntKind.i64.wrap ((f m : Int) + 1) = (f m : Int) + 1 := by rw [IntKind.wrap_i64]; omega
              have k6 := box_cell hbu6
              have Hu6 := Lib.hid hu6
              have Hct6 := Lib.hid (Hct.out.step (kl := kl) (m := m) hat)
              have Hrg6 := Lib.hid hrg6
              have Hbl6 := Lib.hid hbl6
              have Hbu6 := Lib.hid hbu6
              clear hu6 hrg6 hrg hbl6 hbu6 hy hwf hat hlk hkey hfr6 Hu Hct Hbl Hbu hg6 hs6 hm
              go_wp2_with (first
                | (at_mapUpdate; refine wpList_bump rfl _ _ _ rfl um t m f rfl rfl rfl hm9 Hu6.out (by omega) ?_)
                | go_in)
              intro w7 hu7 hg7
              have hnum : M3.dm < w3.heap.size := H4.out.lt _ (by simp [FsMem.own])
              rw [Hum.out] at hnum
              have hrg7 := Hrg6.out.kept hg7 (by simp; omega) (by simp; omega)
              have hfr7 : Fr [um] w6 w7 := Fr.of_grown hg7
              have hb7 : Below w3.heap.size w3 w7 := Hbl6.out.grown hg7 (by have := Hbl6.out.size; omega) (by intro j hj; cases hj; rw [Hum.out]; omega)
              have Hfin : Hid (CntRel w3 um (um + 1) r2 M3.dm S3.dur (vals S3.names) (Maps.size S3.names + Maps.size S3.dur) w7) := Lib.hid ⟨_, _, _, _, hrg7, hu7, Hct6.out, by omega, hb7, (hfr7.block _ (lt_of_heap Hbu6.out) (by simp)).trans Hbu6.out⟩
              have Hms : Hid (w7.rangeLeft M3.dm r2 < wr.rangeLeft M3.dm r2) := Lib.hid (by rw [hrg7.left_eq, HL.out]; exact hlt)
              clear hrg7 hu7 hg7 hfr7 hb7 hnum Hu6 Hct6 Hrg6 Hbl6 Hbu6 k6 hen hrun
              go_wp2_with fail
              go_roundw
              case rel => exact Hfin.out
              case measure => exact Hms.out
        · intro x c kl y yp w6 cnt6 hkey hlk hv hat hrg6 hlt hg6 hs6 hen
          obtain ⟨c', ec, hy, hwf⟩ := plainElem_int_inv Tryz.underlying3 hv
          cases ec
          obtain ⟨m, hm⟩ := H4.out.natN.2 kl
          have hcm : c = (m : Int) := by
            have h6 := (hat (nval 0)).symm.trans hm
            have hy1 : y = _ := congrArg Prod.fst hy
            rw [hy1] at h6
            simpa [nval] using h6
          subst hcm
          have hy1 : y = nval m := congrArg Prod.fst hy
          subst hy1
          have hfr6 : Fr [um + 1 + 1] wr w6 := Fr.of_grown hg6
          have hu6 := Hu.out.kept hfr6 (by simp; omega)
          have hbl6 : Below w3.heap.size w3 w6 := Hbl.out.grown hg6 (by have := Hbl.out.size; omega) (by intro j hj; cases hj; rw [Hum.out]; omega)
          have hbu6 := (hfr6.block _ (lt_of_heap Hbu.out) (by simp <;> omega)).trans Hbu.out
          have hm9 : m ≤ 9223372036854775807 := by
            exact wf_le hwf
          have hrun := hu6.run m hm9
          have hfm : f m ≤ t := by obtain ⟨_, _, _, h9⟩ := hu6; exact h9 m
          have hcnt : t + cnt ≤ Maps.size S3.names := htc
          have hszN : Maps.size S3.names ≤ 1099511627776 := by
            rw [HS3.out]
            have := hi.names.size
            show Maps.size S.names ≤ _
            omega
          have r1 : IntKind.i64.wrap ((f m : Int) + 1) = (f m : Int) + 1 := by rw [IntKind.wrap_i64]; omega
          have k6 := box_cell hbu6
          have Hu6 := Lib.hid hu6
          have Hct6 := Lib.hid (Hct.out.step (kl := kl) (m := m) hat)
          have Hrg6 := Lib.hid hrg6
          have Hbl6 := Lib.hid hbl6
          have Hbu6 := Lib.hid hbu6
          clear hu6 hrg6 hrg hbl6 hbu6 hy hwf hat hlk hkey hfr6 Hu Hct Hbl Hbu hg6 hs6 hm
          go_wp2_with (first
            | (at_mapUpdate; refine wpList_bump rfl _ _ _ rfl um t m f rfl rfl rfl hm9 Hu6.out (by omega) ?_)
            | go_in)
          intro w7 hu7 hg7
          have hnum : M3.nm < w3.heap.size := H4.out.lt _ (by simp [FsMem.own])
          rw [Hum.out] at hnum
          have hrg7 := Hrg6.out.kept hg7 (by simp; omega) (by simp; omega)
          have hfr7 : Fr [um] w6 w7 := Fr.of_grown hg7
          have hb7 : Below w3.heap.size w3 w7 := Hbl6.out.grown hg7 (by have := Hbl6.out.size; omega) (by intro j hj; cases hj; rw [Hum.out]; omega)
          have Hfin : Hid (CntRel w3 um (um + 1) (um + 1 + 1) M3.nm S3.names [] (Maps.size S3.names) w7) := Lib.hid ⟨_, _, _, _, hrg7, hu7, Hct6.out, by omega, hb7, (hfr7.block _ (lt_of_heap Hbu6.out) (by simp)).trans Hbu6.out⟩
          have Hms : Hid (w7.rangeLeft M3.nm (um + 1 + 1) < wr.rangeLeft M3.nm (um + 1 + 1)) := Lib.hid (by rw [hrg7.left_eq, HL.out]; exact hlt)
          clear hrg7 hu7 hg7 hfr7 hb7 hnum Hu6 Hct6 Hrg6 Hbl6 Hbu6 k6 hen hrun
          go_wp2_with fail
          go_roundw
          case rel => exact Hfin.out
          case measure => exact Hms.out
end Go.Proofs.YtaolddgnannojaaGreatDoor
