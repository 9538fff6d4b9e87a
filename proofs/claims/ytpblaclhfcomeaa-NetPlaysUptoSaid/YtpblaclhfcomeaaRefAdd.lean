/-
  The reference network: Add.
-/
import Derived.Test.YtpblaclhfcomeaaRefLook
import Derived.Deep.RegionLaw
namespace Go.Proofs.Ytpblaclhfcomeaa
open Go.RowKit Go.Maps

attribute [local go_sem] lt1 lt2 lt3 lt4 lt5 lt6

theorem infoFault2 : (Try.prog.info? 64).map (fun i => (i.zero, i.size, i.bytes)) = some (some (.agg #[.string ⟨#[]⟩, .int .i64 0, .int .i64 0, .int .i64 0, .slice none 0 0]), 5, 64) := by kernel_rfl

theorem own_blk {w : World} {base : Nat} {e : TypeId} {k : Nat} {v : Value} {n : Nat} {xs : List Value} (h : w.ownsRow base e k v n xs) : ∀ b, v.ownBlock = some b → base ≤ b ∧ ∃ cur, w.heap[b]? = some (.cells cur e (0, 0)) := by
  intro b hb
  rcases h.2 with ⟨rfl, _⟩ | ⟨g, cap, cur, rfl, h1, hg, _⟩
  · simp [Value.ownBlock] at hb
  · simp [Value.ownBlock] at hb
    subst hb
    exact ⟨h1, cur, hg⟩
/-- behind an append onto a row of its own and the store of the new slice into the network's struct -/
structure Turned (base rb : Nat) (e : TypeId) (a b : World) : Prop where
  fr : FrT base a b
  other : ∀ (g : Nat) (cs : Array Value) (t : TypeId), t ≠ e → t ≠ 69 → a.heap[g]? = some (.cells cs t (0, 0)) → b.heap[g]? = some (.cells cs t (0, 0))
theorem Turned.below {base rb : Nat} {e : TypeId} {a b c : World} (h : Below a.heap.size a b) (k : Turned base rb e b c) : Turned base rb e a c :=
  ⟨(FrT.of_below h).trans k.fr, fun g cs t h1 h2 hg => k.other g cs t h1 h2 ((h.block g (lt_of_heap hg)).trans hg)⟩
theorem grew {base rb k n : Nat} {e : TypeId} {v nv c0 c1 c2 : Value} {xs : List Value} {i : Nat} {z z2 : World} (he : RefTy e) (hrow : z.ownsRow base e k v n xs) (hg : z.grownBy z2 v.ownBlock) (hrb : z.heap[rb]? = some (.cells #[c0, c1, c2] 69 (0, 0))) (hb : base ≤ rb) (hne : e ≠ 69) :
    Turned base rb e z (z2.setCell ⟨rb, i, none⟩ nv) ∧ z2.heap[rb]? = some (.cells #[c0, c1, c2] 69 (0, 0)) ∧ ∀ (g : Nat) (cs : Array Value), z2.heap[g]? = some (.cells cs e (0, 0)) → (z2.setCell ⟨rb, i, none⟩ nv).heap[g]? = some (.cells cs e (0, 0)) := by
  have hkeep : ∀ (g : Nat) (cs : Array Value) (t : TypeId), t ≠ e → z.heap[g]? = some (.cells cs t (0, 0)) → z2.heap[g]? = some (.cells cs t (0, 0)) := by
    intro g cs t ht h
    refine (hg.block g (lt_of_heap h) fun hh => ?_).trans h
    obtain ⟨_, cur, h2⟩ := own_blk hrow g hh.symm
    rw [h] at h2
    simp only [Option.some.injEq, Obj.cells.injEq] at h2
    exact ht h2.2.1
  have hrb2 := hkeep rb _ _ (fun h => hne h.symm) hrb
  have hset : ∀ (g : Nat) (cs : Array Value) (t : TypeId), t ≠ 69 → z2.heap[g]? = some (.cells cs t (0, 0)) → (z2.setCell ⟨rb, i, none⟩ nv).heap[g]? = some (.cells cs t (0, 0)) := by
    intro g cs t ht h
    refine ((Fr.setCell [rb] z2 ⟨rb, i, none⟩ nv (by simp)).block g (lt_of_heap h) ?_).trans h
    simp only [List.mem_singleton]
    rintro rfl
    rw [h] at hrb2
    simp only [Option.some.injEq, Obj.cells.injEq] at hrb2
    exact ht hrb2.2.1
  refine ⟨⟨?_, fun g cs t h1 h2 h => hset g cs t h2 (hkeep g cs t h1 h)⟩, hrb2, fun g cs h => hset g cs e hne h⟩
  refine (FrT.of_fr (Fr.of_grown hg) fun k hk => ?_).trans (FrT.of_fr (Fr.setCell [rb] z2 ⟨rb, i, none⟩ nv (by simp)) fun k hk => ?_)
  · have hv : v.ownBlock = some k := by simpa using hk
    obtain ⟨h1, cur, h2⟩ := own_blk hrow k hv
    exact ⟨h1, fun _ => ⟨cur, e, h2, he⟩⟩
  · simp only [List.mem_singleton] at hk
    subst hk
    exact ⟨hb, fun _ => ⟨_, _, hrb2, .inl rfl⟩⟩

/-- the first of the reference's faults, none of them u's att-th -/
def NoneOf (S : NetSt) (i : Nat) (u : ByteArray) (att : Int) : Prop := ∀ (j : Nat) (f : (ByteArray × Int) × PFault), j < i → S.faults[j]? = some f → f.1 ≠ (u, att)
def AddRel (x : World) (S : NetSt) (u : ByteArray) (att : Int) (iv : Value) (wr : World) : Prop :=
  ∃ i n : Nat, i ≤ S.faults.length ∧ NoneOf S i u att ∧ iv = .int .i64 i ∧ wr = x.drewN n
def RefAddPost (w : World) (base rb : Nat) (S : NetSt) (log : List ByteArray) (vp vf vl : Value) (f : PFault) (e : Ending) (w' : World) : Prop :=
  FrT base w w' ∧ ((∃ c, addFault S f = .error c ∧ c ≠ 0 ∧ e = .returned (.int .i64 c) ∧ RefAt w' base rb S log vp vf vl) ∨
    (∃ S' vf', addFault S f = .ok S' ∧ e = .returned (.int .i64 0) ∧ RefAt w' base rb S' log vp vf' vl))

set_option maxHeartbeats 2000000 in
set_option maxRecDepth 100000 in
theorem radd_any (w : World) (base rb : Nat) (S : NetSt) (log : List ByteArray) (vp vf vl : Value) (f : PFault) (A : Option Addr) (c : Nat) (h : RefAt w base rb S log vp vf vl) (hd : Bs w A c f.data) (hdl : f.data.length ≤ 1048576) (hu : f.u.size ≤ 1048576)
    (ha : -9223372036854775808 ≤ f.att ∧ f.att ≤ 9223372036854775807) (hk : -9223372036854775808 ≤ f.kind ∧ f.kind ≤ 9223372036854775807) (hn : -9223372036854775808 ≤ f.n ∧ f.n ≤ 9223372036854775807) (hfl : S.faults.length ≤ 1000000) :
    Calls Try.prog 25 #[.pointer (some ⟨rb, 0, none⟩), fV f.u f.att f.kind f.n A f.data.length c] w (RefAddPost w base rb S log vp vf vl f) := by
  have H := Lib.hid h
  have Hd := Lib.hid hd
  obtain ⟨i0, hi0, hz0, hz1, hz2⟩ := info_parts infoFault2
  obtain ⟨u, att, kind, n, data⟩ := f
  simp only at *
  have hu63 : u.size ≤ 9223372036854775807 := by omega
  have c0 := blk_cells h.blk
  obtain ⟨cs, h1, h2⟩ := h.faults
  obtain ⟨Af, cf, rfl, hAn, hA, hnc, hcm⟩ := own_form h2
  have H1 := Lib.hid h1
  have H2 := Lib.hid h2
  clear h hd h1 h2 hAn hA hnc hcm
  unfold fV
  have herr : ∀ (cd : Int) (e : Ending) (w' : World), addFault S ⟨u, att, kind, n, data⟩ = .error cd → cd ≠ 0 → e = .returned (.int .i64 cd) → Below w.heap.size w w' → RefAddPost w base rb S log vp (.slice Af S.faults.length cf) vl ⟨u, att, kind, n, data⟩ e w' :=
    fun cd e w' e1 e2 e3 hb => ⟨FrT.of_below hb, .inl ⟨cd, e1, e2, e3, H.out.below hb⟩⟩
  have Herr := Lib.hid herr
  clear herr
  have hb1 := fun o => (Below.refl w.heap.size w).alloc (Nat.le_refl _) o
  have Hb1 := Lib.hid hb1
  clear hb1
  by_cases hbad : fitsB u = false ∨ (fitsB u = true ∧ kind < 1) ∨ (fitsB u = true ∧ 1 ≤ kind ∧ 7 < kind) ∨ (fitsB u = true ∧ 1 ≤ kind ∧ kind ≤ 7 ∧ att < 1) ∨ (fitsB u = true ∧ 1 ≤ kind ∧ kind ≤ 7 ∧ 1 ≤ att ∧ n < 0)
  · have hcode : ∃ cd, addFault S ⟨u, att, kind, n, data⟩ = .error cd ∧ cd ≠ 0 ∧ ((fitsB u = false ∧ cd = 13) ∨ (fitsB u = true ∧ kind < 1 ∧ cd = 7) ∨ (fitsB u = true ∧ 1 ≤ kind ∧ 7 < kind ∧ cd = 7) ∨ (fitsB u = true ∧ 1 ≤ kind ∧ kind ≤ 7 ∧ att < 1 ∧ cd = 6) ∨ (fitsB u = true ∧ 1 ≤ kind ∧ kind ≤ 7 ∧ 1 ≤ att ∧ n < 0 ∧ cd = 6)) := by
      unfold addFault
      dsimp only
      rcases hbad with hfit | ⟨hfit, k1⟩ | ⟨hfit, k1, k2⟩ | ⟨hfit, k1, k2, k3⟩ | ⟨hfit, k1, k2, k3, k4⟩
      · exact ⟨13, by rw [if_pos hfit], by decide, .inl ⟨hfit, rfl⟩⟩
      · exact ⟨7, by rw [if_neg (by simp [hfit]), if_pos (by omega)], by decide, .inr (.inl ⟨hfit, k1, rfl⟩)⟩
      · exact ⟨7, by rw [if_neg (by simp [hfit]), if_pos (by omega)], by decide, .inr (.inr (.inl ⟨hfit, k1, k2, rfl⟩))⟩
      · exact ⟨6, by rw [if_neg (by simp [hfit]), if_neg (by omega), if_pos (by omega)], by decide, .inr (.inr (.inr (.inl ⟨hfit, k1, k2, k3, rfl⟩)))⟩
      · exact ⟨6, by rw [if_neg (by simp [hfit]), if_neg (by omega), if_pos (by omega)], by decide, .inr (.inr (.inr (.inr ⟨hfit, k1, k2, k3, k4, rfl⟩)))⟩
    obtain ⟨cd, hc1, hc2, hc3⟩ := hcode
    have Hc1 := Lib.hid hc1
    have Hc2 := Lib.hid hc2
    clear hbad hc1 hc2
    rcases hc3 with ⟨hfit, rfl⟩ | ⟨hfit, k1, rfl⟩ | ⟨hfit, k1, k2, rfl⟩ | ⟨hfit, k1, k2, k3, rfl⟩ | ⟨hfit, k1, k2, k3, k4, rfl⟩
    all_goals
      go_enter Try.func25, Try.ntmps25
      go_wp2_with (first | (go_at_call 37; refine (long_any _ _ hu63).mono ?_; rintro e w' ⟨rfl, rfl⟩; rw [hfit]))
      go_ret
      exact Herr.out _ _ _ Hc1.out Hc2.out rfl (Hb1.out _)
  · obtain ⟨hfit, k1, k2, k3, k4⟩ : fitsB u = true ∧ 1 ≤ kind ∧ kind ≤ 7 ∧ 1 ≤ att ∧ 0 ≤ n := by
      cases hf : fitsB u
      · exact absurd (.inl hf) hbad
      · refine ⟨rfl, ?_⟩
        by_cases q1 : kind < 1
        · exact absurd (.inr (.inl ⟨hf, q1⟩)) hbad
        by_cases q2 : 7 < kind
        · exact absurd (.inr (.inr (.inl ⟨hf, by omega, q2⟩))) hbad
        by_cases q3 : att < 1
        · exact absurd (.inr (.inr (.inr (.inl ⟨hf, by omega, by omega, q3⟩)))) hbad
        by_cases q4 : n < 0
        · exact absurd (.inr (.inr (.inr (.inr ⟨hf, by omega, by omega, by omega, q4⟩)))) hbad
        omega
    clear hbad
    have hadd : addFault S ⟨u, att, kind, n, data⟩ = if (look S.faults (u, att)).isSome then .error 3 else .ok (S.add ⟨u, att, kind, n, data⟩) := by
      unfold addFault
      simp only [hfit]
      rw [if_neg (by decide), if_neg (by omega), if_neg (by omega)]
    have Hadd := Lib.hid hadd
    clear hadd
    go_enter Try.func25, Try.ntmps25
    go_wp2_with (first | (go_at_call 37; refine (long_any _ _ hu63).mono ?_; rintro e w' ⟨rfl, rfl⟩; rw [hfit]))
    have hnew := heap_alloc_new w (.cells #[.string u, .int .i64 att, .int .i64 kind, .int .i64 n, .slice A data.length c] 64)
    have hbx := Hb1.out (.cells #[.string u, .int .i64 att, .int .i64 kind, .int .i64 n, .slice A data.length c] 64)
    generalize w.alloc (.cells #[.string u, .int .i64 att, .int .i64 kind, .int .i64 n, .slice A data.length c] 64) = x at *
    have cn := blk_cells hnew
    have HRx : Hid (RefAt x base rb S log vp (.slice Af S.faults.length cf) vl) := Lib.hid (H.out.below hbx)
    have cx := blk_cells HRx.out.blk
    have Hnew := Lib.hid hnew
    have Hbx := Lib.hid hbx
    clear hnew hbx c0
    go_loopw [5] (fun iv wr => AddRel x S u att iv wr) (fun iv _ => S.faults.length - (intOf iv).toNat)
    case atStart => exact ⟨0, 0, by omega, fun j f hj => by omega, rfl, rfl⟩
    case round =>
      obtain ⟨i, m, hi, hno, rfl, rfl⟩ := hrel
      have Hno := Lib.hid hno
      clear hno
      by_cases hlt : i < S.faults.length
      · obtain ⟨f, hf⟩ : ∃ f, S.faults[i]? = some f := ⟨_, List.getElem?_eq_getElem hlt⟩
        obtain ⟨g, cp, v, he, hg, _, hkey, _⟩ := HRx.out.fault_at hf
        simp only [Value.slice.injEq] at he
        obtain ⟨rfl, _, rfl⟩ := he
        have g0 : x.cell? ⟨g, i * 5, none⟩ = some (.string f.2.u) := hg 0 (by omega)
        have g1 : x.cell? ⟨g, i * 5 + 1, none⟩ = some (.int .i64 f.2.att) := hg 1 (by omega)
        have Hf := Lib.hid hf
        have Hkey := Lib.hid hkey
        have hseq := str_eq f.2.u u
        clear hf hkey hg
        by_cases hboth : f.2.u = u ∧ f.2.att = att
        · obtain ⟨e1, e2⟩ := hboth
          have hs2 : (f.2.att == att) = true := by simp [e2]
          rw [decide_eq_true e1] at hseq
          have Hk2 : Hid (f.1 = (u, att)) := Lib.hid (by rw [Hkey.out, e1, e2])
          clear e1 e2
          go_wp2_with fail
          go_quiet (fail)
          go_wp2
          go_ret
          refine Herr.out 3 _ _ ?_ (by decide) rfl (Fr.below_drewN (Fr.below_drewN Hbx.out _) _)
          rw [Hadd.out, if_pos]
          cases hl : look S.faults (u, att) with
          | some y => rfl
          | none => exact absurd (List.mem_map.2 ⟨f, List.mem_of_getElem? Hf.out, Hk2.out⟩) ((look_none _ _).1 hl)
        · have Hk2 : Hid (f.1 ≠ (u, att)) := Lib.hid (by
            rw [Hkey.out]
            intro e
            simp only [Prod.mk.injEq] at e
            exact hboth e)
          by_cases e1 : f.2.u = u
          · have hs2 : (f.2.att == att) = false := by
              simp
              exact fun e2 => hboth ⟨e1, e2⟩
            rw [decide_eq_true e1] at hseq
            clear e1 hboth
            go_wp2_with fail
            go_quiet (fail)
            go_wp2
            go_roundw
            case rel =>
              refine ⟨i + 1, _, by omega, fun j q hj hq => ?_, by go_num, rfl⟩
              by_cases hji : j < i
              · exact Hno.out j q hji hq
              · obtain rfl : j = i := by omega
                rw [Hf.out] at hq
                cases hq
                exact Hk2.out
            case measure => simp [intOf]; omega
          · rw [decide_eq_false e1] at hseq
            clear e1 hboth
            go_wp2_with fail
            go_quiet (fail)
            go_wp2
            go_roundw
            case rel =>
              refine ⟨i + 1, _, by omega, fun j q hj hq => ?_, by go_num, rfl⟩
              by_cases hji : j < i
              · exact Hno.out j q hji hq
              · obtain rfl : j = i := by omega
                rw [Hf.out] at hq
                cases hq
                exact Hk2.out
            case measure => simp [intOf]; omega
      · have hlook : look S.faults (u, att) = none := by
          rw [look_none]
          intro hm
          obtain ⟨q, hq, e⟩ := List.mem_map.1 hm
          obtain ⟨j, hj⟩ := List.getElem?_of_mem hq
          exact Hno.out j q (by have := (List.getElem?_eq_some_iff.1 hj).1; omega) hj e
        have Hok : Hid (addFault S ⟨u, att, kind, n, data⟩ = .ok { S with faults := S.faults ++ [((u, att), ⟨u, att, kind, n, data⟩)] }) := Lib.hid (by
          rw [Hadd.out, if_neg (by rw [hlook]; decide)]
          unfold NetSt.add put
          dsimp only
          rw [hlook]
          rfl)
        clear hlook Hno Hadd
        go_wp2_with fail
        refine (bytes_any data A c _ hdl ((Hd.out.keep (Cells.of_below Hbx.out)).keep (Cells.drewN _ _))).mono ?_
        rintro e y ⟨v, rfl, hv, hby⟩
        obtain ⟨Av, cv, rfl, _⟩ := own_form hv
        have hny := (hby.block w.heap.size cn.2.2).trans Hnew.out
        have cny := blk_cells hny
        have HRy : Hid (RefAt y base rb S log vp (.slice Af S.faults.length cf) vl) := Lib.hid ((HRx.out.drewN m).below hby)
        have cy := blk_cells HRy.out.blk
        have Hv := Lib.hid hv
        have Hby := Lib.hid hby
        have Hny := Lib.hid hny
        clear hv hby hny cn cx
        go_wp2_with fail
        have hz1 : (y.setCell ⟨w.heap.size, 4, none⟩ (.slice Av data.length cv)).heap[w.heap.size]? = some (.cells #[.string u, .int .i64 att, .int .i64 kind, .int .i64 n, .slice Av data.length cv] 64 (0, 0)) := by
          rw [heap_setCell_at Hny.out]
          rfl
        have hz2 : Below w.heap.size w (y.setCell ⟨w.heap.size, 4, none⟩ (.slice Av data.length cv)) :=
          (Hbx.out.trans ((Fr.below_drewN (Below.refl x.heap.size x) m).trans Hby.out |>.mono (Nat.le_of_lt (by have := Hbx.out.size; have := lt_of_heap Hnew.out; omega)))).trans ((Fr.setCell [w.heap.size] y ⟨w.heap.size, 4, none⟩ _ (by simp)).below (by have := lt_of_heap Hny.out; omega) (by simp))
        have hz3 : RData (y.setCell ⟨w.heap.size, 4, none⟩ (.slice Av data.length cv)) (.slice Av data.length cv) data := by
          refine ⟨own_u8_keep (own_base Hv.out (Nat.zero_le _)) fun g cs hg => ((Fr.setCell [w.heap.size] y ⟨w.heap.size, 4, none⟩ _ (by simp)).block g (lt_of_heap hg) ?_).trans hg, hdl⟩
          simp only [List.mem_singleton]
          rintro rfl
          rw [Hny.out] at hg
          simp at hg
        generalize y.setCell ⟨w.heap.size, 4, none⟩ (.slice Av data.length cv) = z at *
        have HRz : Hid (RefAt z base rb S log vp (.slice Af S.faults.length cf) vl) := Lib.hid (H.out.below hz2)
        have cz := blk_cells HRz.out.blk
        have zn := blk_cells hz1
        have Hz1 := Lib.hid hz1
        have Hz2 := Lib.hid hz2
        have Hz3 := Lib.hid hz3
        have cz1 := cz.1 1
        simp at cz1
        clear hz1 hz2 hz3 cy cny
        have hownZ : ∀ o, (z.alloc o).drew.ownsRow base 64 5 (.slice Af S.faults.length cf) S.faults.length cs.flatten := fun o =>
          own_keep H2.out fun g c hg => ((Below.heap_alloc z o g (Nat.lt_of_lt_of_le (lt_of_heap hg) Hz2.out.size)).trans (Hz2.out.block g (lt_of_heap hg))).trans hg
        have hbz : base ≤ z.heap.size := Nat.le_trans HRz.out.hb (Nat.le_of_lt cz.2.2)
        have ca : ∀ (o : Obj), (z.alloc o).drew.cell? ⟨rb, 1, none⟩ = some (.slice Af S.faults.length cf) := fun o => (World.cell?_alloc_lt z o ⟨rb, 1, none⟩ cz.2.2).trans cz1
        have cb : ∀ (o : Obj) (i : Nat), (z.alloc o).drew.cell? ⟨w.heap.size, i, none⟩ = (#[.string u, .int .i64 att, .int .i64 kind, .int .i64 n, .slice Av data.length cv] : Array Value)[i]? := fun o i => (World.cell?_alloc_lt z o ⟨w.heap.size, i, none⟩ zn.2.2).trans (zn.1 i)
        have hnw : ∀ (o : Obj), o = .cells #[.string u, .int .i64 att, .int .i64 kind, .int .i64 n, .slice Av data.length cv] 64 → ∀ j v, [Value.string u, .int .i64 att, .int .i64 kind, .int .i64 n, .slice Av data.length cv][j]? = some v → (z.alloc o).drew.cell? ((⟨z.heap.size, 0, none⟩ : Addr).add j) = some v := by
          intro o ho j v hv
          subst ho
          exact World.news_of_block (w := (z.alloc _).drew) (heap_alloc_new z _) j v hv
        have hone : ∀ v ∈ [Value.string u, .int .i64 att, .int .i64 kind, .int .i64 n, .slice Av data.length cv], v.oneCell' = true := by
          intro v hv
          simp only [List.mem_cons, List.not_mem_nil, or_false] at hv
          rcases hv with rfl | rfl | rfl | rfl | rfl <;> rfl
        have hn1 : some rb ≠ (Value.slice Af S.faults.length cf).ownBlock := fun e => by
          obtain ⟨_, cur, h5⟩ := own_blk H2.out rb e.symm
          rw [H.out.blk] at h5
          simp at h5
        have hn2 : some w.heap.size ≠ (Value.slice Af S.faults.length cf).ownBlock := fun e => by
          have := (H2.out.lt w.heap.size e.symm).2
          omega
        have hlz := zn.2.2
        have hlr := cz.2.2
        have fa : ∀ (o : Obj), (z.alloc o).drew.frozen? ⟨rb, 1, none⟩ = false := fun o => (World.frozen?_of_block (a := ⟨rb, 1, none⟩) (Below.heap_alloc z o rb cz.2.2)).trans (cz.2.1 1)
        have hfin : ∀ (o : Obj) (g cap : Nat) (z2 : World), z2.ownsRow base 64 5 (.slice (some ⟨g, 0, none⟩) (S.faults.length + 1) cap) (S.faults.length + 1) (cs.flatten ++ [.string u, .int .i64 att, .int .i64 kind, .int .i64 n, .slice Av data.length cv]) → (z.alloc o).drew.grownBy z2 (Value.slice Af S.faults.length cf).ownBlock →
            RefAddPost w base rb S log vp (.slice Af S.faults.length cf) vl ⟨u, att, kind, n, data⟩ (.returned (.int .i64 0)) (z2.setCell ⟨rb, 1, none⟩ (.slice (some ⟨g, 0, none⟩) (S.faults.length + 1) cap)) := by
          intro o g cap z2 hown hgrow
          have hbzo : Below w.heap.size w (z.alloc o).drew := Hz2.out.trans (((Below.refl z.heap.size z).alloc (Nat.le_refl _) o).drew.mono Hz2.out.size)
          have hRo := H.out.below hbzo
          obtain ⟨ht, hrb2, hrow2⟩ := grew (i := 1) (nv := .slice (some ⟨g, 0, none⟩) (S.faults.length + 1) cap) (.inr (.inr (.inl rfl))) (hownZ o) hgrow hRo.blk hRo.hb (by decide)
          have hT := Turned.below hbzo ht
          have hT2 : Turned base rb 64 z _ := Turned.below ((Below.refl z.heap.size z).alloc (Nat.le_refl _) o).drew ht
          have hU : U8s w _ := fun g cs => hT.other g cs _ (by decide) (by decide)
          have hU2 : U8s z _ := fun g cs => hT2.other g cs _ (by decide) (by decide)
          refine ⟨hT.fr, .inr ⟨_, .slice (some ⟨g, 0, none⟩) (S.faults.length + 1) cap, Hok.out, rfl, ?_⟩⟩
          obtain ⟨ps, p1, p2⟩ := H.out.pages
          refine ⟨?_, H.out.hb, ⟨ps, p1.mono fun _ _ hh => hh.keep hU, own_keep p2 fun g c => hT.other g c _ (by decide) (by decide)⟩, ⟨cs ++ [[.string u, .int .i64 att, .int .i64 kind, .int .i64 n, .slice Av data.length cv]], ?_, ?_⟩, own_keep H.out.lrow fun g c => hT.other g c _ (by decide) (by decide), H.out.sm⟩
          · rw [heap_setCell_at hrb2]
            rfl
          · exact (H1.out.mono fun _ _ hh => hh.keep hU).append ⟨_, rfl, Hz3.out.keep hU2, rfl, hu⟩
          · have e1 : (S.faults ++ [((u, att), (⟨u, att, kind, n, data⟩ : PFault))]).length = S.faults.length + 1 := by simp
            rw [show ({ S with faults := S.faults ++ [((u, att), (⟨u, att, kind, n, data⟩ : PFault))] } : NetSt).faults.length = S.faults.length + 1 from e1]
            rw [List.flatten_append]
            have e2 : ([[Value.string u, .int .i64 att, .int .i64 kind, .int .i64 n, .slice Av data.length cv]] : List (List Value)).flatten = [.string u, .int .i64 att, .int .i64 kind, .int .i64 n, .slice Av data.length cv] := by simp
            rw [e2]
            exact own_keep hown hrow2
        have Hfin := Lib.hid hfin
        clear hfin
        have Hown := Lib.hid hownZ
        have Hone := Lib.hid hone
        have Hnw := Lib.hid hnw
        have Hca := Lib.hid ca
        have Hfa := Lib.hid fa
        clear hownZ hone hnw ca cb fa
        go_region_law ((refine step_append_lies _ (by rfl) _ _ 52 (by rfl) base 64 i0 (.agg #[.string ⟨#[]⟩, .int .i64 0, .int .i64 0, .int .i64 0, .slice none 0 0]) 5 64 Try.underlying52 hi0 hz0 hz1 hz2 (by rfl) (by omega) (.slice Af S.faults.length cf) S.faults.length cs.flatten (by rfl) (Hown.out _) ⟨z.heap.size, 0, none⟩ 1 1 [.string u, .int .i64 att, .int .i64 kind, .int .i64 n, .slice Av data.length cv] (by rfl) (by rfl) (Hnw.out _ rfl) Hone.out (by omega) (by simp [maxLen]; omega) (by omega) (by simp; omega) (z.heap.size + 1) (by simp) ?_; intro g cap z2 hown hgrow hat hlt2; have hfz := (hgrow.frozen_far ⟨rb, 1, none⟩ (by simp; omega) hn1).trans (Hfa.out _); have hcl := (hgrow.cell_far ⟨rb, 1, none⟩ (by simp; omega) hn1).trans (Hca.out _); have hown := Lib.hid hown; have hgrow := Lib.hid hgrow))
        all_goals
          go_wp2
          go_ret
          exact Hfin.out _ g cap z2 hown.out hgrow.out
end Go.Proofs.Ytpblaclhfcomeaa
