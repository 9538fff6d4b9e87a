/-
  Plain: the other operations on both sides; what is told.
  Plain: SyncDir and Crash on both sides; the lists that are told.
-/
import Derived.Test.YtaolddgnannojaaGreatDoorFsSim
namespace Go.Proofs.YtaolddgnannojaaGreatDoor
open Go.RowKit Go.Maps

theorem sim_new (q : Int) : Sim (newS q) ⟨(min (max q 0) 67108864).toNat, [], [], [], [], 0, 0, false⟩ :=
  ⟨rfl, rfl, rfl, rfl, rfl, fun k c h => by simp [newS, numF] at h, Rows.made, Rows.made, rfl, fun p hp => by simp [newS] at hp, rfl, fun j => by
    have : durOf (newS q).dur ((newS q).pend.take j) = .map [] := by simp [newS, durOf]
    rw [this]
    exact ⟨fun s t h => absurd rfl h, rfl, by decide⟩, rfl⟩
theorem Sim.arm {S : FsSt} {R : RSt} (h : Sim S R) (a : Nat) : Sim { S with armed := a } { R with armed := a } :=
  ⟨h.room, h.done, rfl, h.out, h.last, h.node, h.now, h.safe, h.pend, h.named, h.names, h.ok, h.size⟩
/-- a node has turned on both sides -/
theorem Sim.refile {K : Nat} {S : FsSt} {R : RSt} (h : Sim S R) (hg : FsGood K S) {s : ByteArray} {i : Nat} (hi : S.of s = some i) (c : FileC) (z : Int) (hz : z = (c.d.length : Int) - S.lenAt i) :
    Sim { S with files := S.files.set i ((S.fileD i).1, c), size := S.size + z } (R.node (nget S.names s - 1) c) := by
  rcases h.at_ hg s with ⟨_, h2, _⟩ | ⟨i', k1, k2, k3, k4, k5⟩
  · rw [hi] at h2; cases h2
  · rw [hi] at k1
    cases k1
    have hlt := (List.getElem?_eq_some_iff.1 k4).1
    refine ⟨h.room, h.done, h.armed, h.out, by show (R.nodes.set _ c).length = S.last; rw [List.length_set, h.last], fun k c' hk => ?_, h.now, h.safe, h.pend, h.named, h.names, h.ok, ?_⟩
    · have hk' : numF (S.files.set i ((S.files.getD i (0, ⟨[], 0⟩)).1, c)) k = some c' := hk
      rw [numF_set S.files i hi k] at hk'
      show (R.nodes.set (nget S.names s - 1) c)[k - 1]? = some c'
      by_cases e : k = nget S.names s
      · rw [if_pos e] at hk'
        cases hk'
        rw [e, List.getElem?_set_self hlt]
      · rw [if_neg e] at hk'
        have h9 := h.node k c' hk'
        have hk0 : k ≠ 0 := fun e0 => by
          have hm := numF_mem hk'
          have := (hg.inv.rng _ hm).1
          simp only at this
          omega
        rw [List.getElem?_set_ne (by omega)]
        exact h9
    · show S.size + z = ((sumL (RSt.len (R.node (nget S.names s - 1) c)) R.now : Nat) : Int)
      have hs0 := h.size
      unfold RSt.size at hs0
      have e1 := sumL_without R.len s h.now.ord
      have e2 := sumL_without (RSt.len (R.node (nget S.names s - 1) c)) s h.now.ord
      rw [k3] at e1 e2
      simp only [atF] at e1 e2
      have e3 : RSt.len (R.node (nget S.names s - 1) c) (nget S.names s - 1) = c.d.length := by
        unfold RSt.len RSt.node
        simp only
        rw [List.getD_eq_getElem?_getD, List.getElem?_set_self hlt]
        rfl
      have e4 : R.len (nget S.names s - 1) = S.lenAt i := by
        unfold RSt.len FsSt.lenAt
        rw [List.getD_eq_getElem?_getD, k4]
        rfl
      have e5 : sumL (RSt.len (R.node (nget S.names s - 1) c)) (without R.now s) = sumL R.len (without R.now s) := sumL_congr fun p hp => by
        unfold without at hp
        obtain ⟨p1, p2⟩ := List.mem_filter.1 hp
        simp only [decide_eq_true_eq] at p2
        have p3 := (h.now.mem p.1 p.2).1 p1
        have p4 : p.2 ≠ nget S.names s - 1 := fun e => p2 (h.okN.inj p.1 s (by omega) (by omega))
        unfold RSt.len RSt.node
        simp only
        rw [List.getD_eq_getElem?_getD, List.getD_eq_getElem?_getD, List.getElem?_set_ne (by omega)]
      omega
theorem rat_of {K : Nat} {S : FsSt} {R : RSt} (h : Sim S R) (hg : FsGood K S) (s : ByteArray) : (S.of s = none ∧ rat R.now s = none) ∨ ∃ i, S.of s = some i ∧ rat R.now s = some (nget S.names s - 1) ∧ R.nodes.getD (nget S.names s - 1) noNd = (S.fileD i).2 ∧ nget S.names s ≠ 0 := by
  rcases h.at_ hg s with ⟨h1, h2, _⟩ | ⟨i, h1, h0, h2, h3, _⟩
  · exact .inl ⟨h2, h1⟩
  · exact .inr ⟨i, h1, h2, by rw [List.getD_eq_getElem?_getD, h3]; rfl, h0⟩
theorem sim_append {K : Nat} {S : FsSt} {R : RSt} (h : Sim S R) (hg : FsGood K S) (s : ByteArray) (d : List UInt8) : Both (S.append s d) (R.append s d) := by
  unfold FsSt.append RSt.append
  rw [← h.out]
  by_cases h1 : R.out = true
  · rw [if_pos h1, if_pos h1]
    exact ⟨rfl, h⟩
  rw [if_neg h1, if_neg h1]
  rcases rat_of h hg s with ⟨h2, h3⟩ | ⟨i, h2, h3, h4, _⟩
  · rw [h2, h3]
    exact ⟨rfl, h⟩
  · rw [h2, h3]
    simp only
    have hfu : S.full d.length 0 = decide ((R.room : Int) - (R.size : Int) < d.length) := by
      have := h.okN.few
      unfold FsSt.full
      rw [h.room, ← h.size]
      have e : decide ((4000 : Int) - Maps.size S.names < 0) = false := by rw [decide_eq_false_iff_not]; omega
      rw [e, Bool.or_false]
    rw [hfu]
    by_cases h5 : (R.room : Int) - (R.size : Int) < d.length
    · rw [if_pos (by simpa using h5), if_pos h5]
      exact ⟨rfl, h⟩
    · rw [if_neg (by simpa using h5), if_neg h5, h.armed]
      unfold FsSt.wrErr FsSt.wrote
      by_cases h6 : S.armed = 1
      · rw [if_pos h6, if_pos h6, if_pos h6]
        exact ⟨rfl, h.fails⟩
      · rw [if_neg h6, if_neg h6, if_neg h6]
        refine ⟨rfl, ?_⟩
        have hr := h.did.refile (hg.tick.mono (K' := K + S.steps + 1) (by omega) |>.stepped (by show S.steps + 1 ≤ _; omega)) (s := s) (i := i) h2 ⟨(S.fileD i).2.d ++ d, (S.fileD i).2.sy⟩ d.length (by
          show (d.length : Int) = (((S.fileD i).2.d ++ d).length : Int) - ((S.fileD i).2.d).length
          rw [List.length_append]
          omega)
        rw [h4]
        exact hr
theorem sim_sync {K : Nat} {S : FsSt} {R : RSt} (h : Sim S R) (hg : FsGood K S) (s : ByteArray) : Both (S.sync s) (R.sync s) := by
  unfold FsSt.sync RSt.sync
  rw [← h.out]
  by_cases h1 : R.out = true
  · rw [if_pos h1, if_pos h1]
    exact ⟨rfl, h⟩
  rw [if_neg h1, if_neg h1]
  rcases rat_of h hg s with ⟨h2, h3⟩ | ⟨i, h2, h3, h4, _⟩
  · rw [h2, h3]
    exact ⟨rfl, h⟩
  · rw [h2, h3]
    simp only
    rw [h.armed]
    unfold FsSt.wrErr FsSt.wrote
    by_cases h6 : S.armed = 1
    · rw [if_pos h6, if_pos h6, if_pos h6]
      exact ⟨rfl, h.fails⟩
    · rw [if_neg h6, if_neg h6, if_neg h6]
      refine ⟨rfl, ?_⟩
      have hr := h.did.refile (hg.tick.mono (K' := K + S.steps + 1) (by omega) |>.stepped (by show S.steps + 1 ≤ _; omega)) (s := s) (i := i) h2 ⟨(S.fileD i).2.d, (S.fileD i).2.d.length⟩ 0 (by
        show (0 : Int) = ((S.fileD i).2.d.length : Int) - ((S.fileD i).2.d).length
        omega)
      rw [h4]
      have e : ({ S.tick.stepped with files := S.tick.stepped.files.set i ((S.tick.stepped.fileD i).1, ⟨(S.fileD i).2.d, (S.fileD i).2.d.length⟩), size := S.tick.stepped.size + 0 } : FsSt) = (S.tick.sync1 i).stepped := by
        show _ = ({ S.tick.stepped with files := S.tick.stepped.files.set i ((S.tick.stepped.fileD i).1, ⟨(S.fileD i).2.d, (S.fileD i).2.d.length⟩) } : FsSt)
        rw [Int.add_zero]
      rw [e] at hr
      exact hr
theorem RSt.len_did (R : RSt) : R.did.len = R.len := rfl
theorem sim_remove {K : Nat} {S : FsSt} {R : RSt} (h : Sim S R) (hg : FsGood K S) (s : ByteArray) : Both (S.remove s) (R.remove s) := by
  unfold FsSt.remove RSt.remove FsSt.has
  rw [← h.out]
  by_cases h1 : R.out = true
  · rw [if_pos h1, if_pos h1]
    exact ⟨rfl, h⟩
  rw [if_neg h1, if_neg h1]
  rcases rat_of h hg s with ⟨h2, h3⟩ | ⟨i, h2, h3, h4, h0⟩
  · rw [h2, h3]
    exact ⟨rfl, h⟩
  · rw [h2, h3]
    simp only [Option.isSome_some, if_true]
    rw [h.armed]
    unfold FsSt.wrErr FsSt.wrote
    by_cases h6 : S.armed = 1
    · rw [if_pos h6, if_pos h6, if_pos h6]
      exact ⟨rfl, h.fails⟩
    · rw [if_neg h6, if_neg h6, if_neg h6]
      refine ⟨rfl, ?_⟩
      have hs0 := named_pos h.okN h0
      have hl : S.tick.lose s = { S.tick with size := S.size - S.lenAt i } := by
        unfold FsSt.lose
        rw [show S.tick.of s = some i from h2]
        rfl
      have e : (S.tick.remove1 s).stepped = (({ S.tick with size := S.size - S.lenAt i } : FsSt).changes ⟨dirOf s, 0, .del s⟩).stepped := by
        unfold FsSt.remove1
        rw [hl]
      show Sim (S.tick.remove1 s).stepped _
      rw [e]
      have e1 := sumL_without R.len s h.now.ord
      rw [h3] at e1
      simp only [atF] at e1
      have e4 : R.len (nget S.names s - 1) = S.lenAt i := by
        unfold RSt.len FsSt.lenAt
        rw [h4]
        rfl
      have hsz := h.size
      unfold RSt.size at hsz
      have hd : does R.now (rch ⟨dirOf s, 0, .del s⟩) = without R.now s := by
        show does R.now ⟨dirOf s, s, ⟨#[]⟩, 0⟩ = _
        unfold does
        simp only
        rw [if_neg hs0, if_pos (show (⟨#[]⟩ : ByteArray).size = 0 from rfl)]
      refine h.change hg ⟨dirOf s, 0, .del s⟩ hs0 (ok_del h.okN hg.dn s) rfl rfl rfl rfl rfl rfl h.room (by show R.done + 1 = S.steps + 1; rw [h.done]) (by show R.armed - 1 = S.armed - 1; rw [h.armed]) h.out h.last h.node ?_
      show S.size - S.lenAt i = ((sumL R.len (does R.now (rch ⟨dirOf s, 0, .del s⟩)) : Nat) : Int)
      rw [hd]
      omega
theorem rat_without {l : List NRow} {a b : ByteArray} (h : b ≠ a) : rat (without l a) b = rat l b := by
  unfold rat without
  induction l with
  | nil => rfl
  | cons x l ih =>
    by_cases hx : x.1 = a
    · rw [List.filter_cons_of_neg (by simpa using hx), List.find?_cons_of_neg (by simp; intro e; exact h (e.symm.trans hx))]
      exact ih
    · rw [List.filter_cons_of_pos (by simpa using hx)]
      by_cases hb : x.1 = b
      · rw [List.find?_cons_of_pos (by simpa using hb), List.find?_cons_of_pos (by simpa using hb)]
      · rw [List.find?_cons_of_neg (by simpa using hb), List.find?_cons_of_neg (by simpa using hb)]
        exact ih
theorem sim_rename {K : Nat} {S : FsSt} {R : RSt} (h : Sim S R) (hg : FsGood K S) (a b : ByteArray) : Both (S.rename a b) (R.rename a b) := by
  unfold FsSt.rename RSt.rename FsSt.has
  rw [← h.out]
  by_cases h1 : R.out = true
  · rw [if_pos h1, if_pos h1]
    exact ⟨rfl, h⟩
  rw [if_neg h1, if_neg h1]
  rcases rat_of h hg a with ⟨h2, h3⟩ | ⟨i, h2, h3, h4, h0⟩
  · rw [h2, h3]
    exact ⟨rfl, h⟩
  · rw [h2, h3]
    simp only [Option.isSome_some, if_true]
    by_cases hv : validF (toL b) = true
    case neg =>
      rw [if_neg hv, if_neg hv]
      exact ⟨rfl, h⟩
    rw [if_pos hv, if_pos hv, h.armed]
    unfold FsSt.wrErr FsSt.wrote
    by_cases h6 : S.armed = 1
    · rw [if_pos h6, if_pos h6, if_pos h6]
      exact ⟨rfl, h.fails⟩
    rw [if_neg h6, if_neg h6, if_neg h6]
    refine ⟨rfl, ?_⟩
    by_cases hab : a = b
    · show Sim (S.tick.rename1 a b).stepped (if a = b then R.did else _)
      unfold FsSt.rename1
      rw [if_pos hab, if_pos hab]
      exact h.did
    show Sim (S.tick.rename1 a b).stepped (if a = b then R.did else _)
    rw [if_neg hab]
    have ha0 := named_pos h.okN h0
    have hb0 : b.size ≠ 0 := by have := valid_pos hv; omega
    have e : (S.tick.rename1 a b).stepped = ((S.tick.lose b).changes ⟨dirOf b, nget S.names a, .move a b (nget S.names a)⟩).stepped := by
      unfold FsSt.rename1
      rw [if_neg hab]
      rfl
    rw [e]
    obtain ⟨l1, l2, l3⟩ := lose_names S.tick b
    obtain ⟨l4, l5, l6⟩ := lose_same S.tick b
    have l7 := lose_files S.tick b
    have l8 : (S.tick.lose b).dur = S.dur ∧ (S.tick.lose b).last = S.last ∧ (S.tick.lose b).quota = S.quota := by
      unfold FsSt.lose
      split <;> exact ⟨rfl, rfl, rfl⟩
    have e1 := sumL_without R.len a h.now.ord
    rw [h3] at e1
    simp only [atF] at e1
    have e2 := sumL_without R.len b (h.now.del a).ord
    rw [rat_without (Ne.symm hab)] at e2
    have hsz := h.size
    unfold RSt.size at hsz
    have hd : does R.now (rch ⟨dirOf b, nget S.names a, .move a b (nget S.names a)⟩) = withN (without R.now a) b (nget S.names a - 1) := by
      show does R.now ⟨dirOf b, a, b, nget S.names a - 1⟩ = _
      unfold does
      simp only
      rw [if_neg ha0, if_neg hb0]
    have hlz : (S.tick.lose b).size = S.size - (atF R.len (rat R.now b) : Nat) := by
      unfold FsSt.lose
      rcases h.lenAt hg b with ⟨k1, k2⟩ | ⟨j, k, k1, k2, k3⟩
      · rw [show S.tick.of b = none from k2, k1]
        show S.size = S.size - ((0 : Nat) : Int)
        omega
      · rw [show S.tick.of b = some j from k1, k2]
        show S.size - (S.lenAt j : Int) = S.size - ((R.len k : Nat) : Int)
        rw [k3]
    have hok : OkD ((Chg.move a b (nget S.names a)).on S.names) := by
      refine ok_put (ok_del h.okN hg.dn a) (hg.dn.del a) hb0 (fun t ht hk => ?_) ?_
      · rw [nget_del] at hk
        by_cases hta : t = a
        · rw [if_pos hta] at hk
          exact h0 hk.symm
        · rw [if_neg hta] at hk
          exact hta (h.okN.inj t a (by rw [hk]; exact h0) hk)
      · have h9 := size_put_le (hg.dn.del a) b (nget S.names a)
        have h8 := size_del (k := sk a) hg.dn.tidy
        rw [(hg.dn.has_iff a).2 h0] at h8
        have h7 := h.okN.few
        have h5 : 1 ≤ Maps.size S.names := by
          have := h.now.len hg.dn
          have hmem : (a, nget S.names a - 1) ∈ R.now := (h.now.mem _ _).2 (by omega)
          have := List.length_pos_of_mem hmem
          omega
        simp only [if_true] at h8
        omega
    refine h.change hg ⟨dirOf b, nget S.names a, .move a b (nget S.names a)⟩ ⟨ha0, hb0, h0⟩ hok ?_ ?_ l8.1 rfl rfl rfl ?_ ?_ ?_ ?_ ?_ (fun k c hk => h.node k c ?_) ?_
    · show (Chg.move a b (nget S.names a)).on (S.tick.lose b).names = _
      rw [l1]
      rfl
    · show (S.tick.lose b).pend ++ _ = _
      rw [l2]
      rfl
    · show R.room = (S.tick.lose b).quota
      rw [l8.2.2, h.room]
    · show R.done + 1 = (S.tick.lose b).steps + 1
      rw [l4, h.done]
      rfl
    · show R.armed - 1 = (S.tick.lose b).armed
      rw [l6, h.armed]
      rfl
    · show R.out = (S.tick.lose b).down
      rw [l5, h.out]
      rfl
    · show R.nodes.length = (S.tick.lose b).last
      rw [l8.2.1, h.last]
    · have hk' : numF (S.tick.lose b).files k = some c := hk
      rw [l7] at hk'
      exact hk'
    · show (S.tick.lose b).size = ((sumL R.len (does R.now (rch ⟨dirOf b, nget S.names a, .move a b (nget S.names a)⟩)) : Nat) : Int)
      rw [hd, sumL_with, hlz]
      omega
end Go.Proofs.YtaolddgnannojaaGreatDoor
namespace Go.Proofs.YtaolddgnannojaaGreatDoor
open Go.RowKit Go.Maps

theorem durOf_app (D : Dm) (a b : List Pend) : durOf D (a ++ b) = durOf (durOf D a) b := by unfold durOf; rw [List.foldl_append]
theorem rows_durs {K : Nat} {S : FsSt} (hi : FsInv K S) : ∀ (P : List Pend) {D : Dm} {L : List NRow}, Fit S K D → (∀ p ∈ P, p.chg.ok S K p.file) → (∀ p ∈ P, p.chg.named) → Rows D L → Rows (durOf D P) ((P.map rch).foldl does L)
  | [], _, _, _, _, _, h => h
  | p :: P, D, L, hf, hk, hn, h => by
    have h1 := (hf.chg hi (hk p (by simp))).1
    exact rows_durs hi P h1 (fun q hq => hk q (by simp [hq])) (fun q hq => hn q (by simp [hq])) (h.chg hf.dir (hn p (by simp)))
theorem lastR_eq (ps : List Pend) (dir : ByteArray) : ∀ n, n ≤ ps.length → lastR (ps.map rch) dir n = lastN ps dir n
  | 0, _ => rfl
  | n + 1, h => by
    have ih := lastR_eq ps dir n (by omega)
    have e : ((ps.map rch).getD n ⟨⟨#[]⟩, ⟨#[]⟩, ⟨#[]⟩, 0⟩).dir = (ps.getD n noPend).dir := by
      have hl : n < ps.length := by omega
      rw [List.getD_eq_getElem?_getD, List.getD_eq_getElem?_getD, List.getElem?_map, List.getElem?_eq_getElem hl]
      show (rch ps[n]).dir = ps[n].dir
      unfold rch
      split <;> rfl
    rw [lastR, lastN, e, ih]
theorem numF_sub {q : Nat → Bool} {fs : List (Nat × FileC)} {k : Nat} {c : FileC} (h : numF (fs.filter fun e => q e.1) k = some c) : numF fs k = some c := by
  have hm := numF_mem h
  have hq : q k = true := (List.mem_filter.1 hm).2
  rw [numF_filter hq] at h
  exact h
theorem sim_settle {K : Nat} {S : FsSt} {R : RSt} (h : Sim S R) (hg : FsGood K S) (n : Nat) : Sim (S.settle n) (R.lasts n) := by
  refine ⟨h.room, h.done, h.armed, h.out, h.last, fun k c hk => h.node k c (numF_sub (q := (usedL S.names (durOf S.dur (S.pend.take n)) (S.pend.drop n)).contains) hk), h.now, ?_, ?_, fun p hp => h.named p (List.mem_of_mem_drop hp), ?_, fun j => ?_, h.size⟩
  · show Rows (durOf S.dur (S.pend.take n)) ((R.pend.take n).foldl does R.safe)
    rw [h.pend, ← List.map_take]
    exact rows_durs hg.inv (S.pend.take n) hg.fd (fun p hp => hg.inv.pend p (List.mem_of_mem_take hp)) (fun p hp => h.named p (List.mem_of_mem_take hp)) h.safe
  · show R.pend.drop n = (S.pend.drop n).map rch
    rw [h.pend, List.map_drop]
  · show S.names = durOf (durOf S.dur (S.pend.take n)) (S.pend.drop n)
    rw [← durOf_app, List.take_append_drop]
    exact h.names
  · show OkD (durOf (durOf S.dur (S.pend.take n)) ((S.pend.drop n).take j))
    rw [← durOf_app, ← List.take_add]
    exact h.ok (n + j)
theorem sim_syncdir {K : Nat} {S : FsSt} {R : RSt} (h : Sim S R) (hg : FsGood K S) (dir : ByteArray) : Both (S.syncdir dir) (R.syncdir dir) := by
  unfold FsSt.syncdir RSt.syncdir
  rw [← h.out]
  by_cases h1 : R.out = true
  · rw [if_pos h1, if_pos h1]
    exact ⟨rfl, h⟩
  rw [if_neg h1, if_neg h1]
  by_cases h2 : dir.size ≠ 0 ∧ validF (toL dir) = false
  · rw [if_pos h2, if_pos h2]
    exact ⟨rfl, h⟩
  rw [if_neg h2, if_neg h2, h.armed]
  unfold FsSt.wrErr FsSt.wrote
  by_cases h6 : S.armed = 1
  · rw [if_pos h6, if_pos h6, if_pos h6]
    exact ⟨rfl, h.fails⟩
  rw [if_neg h6, if_neg h6, if_neg h6]
  refine ⟨rfl, ?_⟩
  have hl : lastR R.pend dir R.pend.length = lastN S.tick.pend dir S.tick.pend.length := by
    rw [h.pend, List.length_map]
    exact lastR_eq S.pend dir S.pend.length (Nat.le_refl _)
  rw [hl]
  exact sim_settle h.did (hg.tick.mono (K' := K + S.steps + 1) (by omega) |>.stepped (by show S.steps + 1 ≤ _; omega)) (lastN S.tick.pend dir S.tick.pend.length)
/-! ### sums over a directory -/
theorem rows_perm {D : Dm} {L : List NRow} (h : Rows D L) (hD : DirOk D) (hk : OkD D) : (L.map fun p => p.2 + 1).Perm (vals D) := by
  refine (List.perm_ext_iff_of_nodup ?_ ?_).2 fun k => ?_
  · refine List.pairwise_map.2 (h.ord.imp_of_mem fun {p q} hp hq hlt e => ?_)
    have h1 := (h.mem p.1 p.2).1 hp
    have h2 := (h.mem q.1 q.2).1 hq
    have := hk.inj p.1 q.1 (by omega) (by omega)
    rw [this] at hlt
    exact ltS_irrefl _ hlt
  · obtain ⟨es, rfl, h1, h2⟩ := hD.canon
    show (es.map fun p => natOf p.2).Nodup
    have hap := apart_of_rising h1
    have key : ∀ p ∈ es, ∃ s : ByteArray, p.1 = sk s ∧ nget (.map es) s = natOf p.2 ∧ nget (.map es) s ≠ 0 := fun p hp => by
      have hh : has (.map es) p.1 = true := by rw [has_eq, List.any_eq_true]; exact ⟨p, hp, WideAt.sameKey_self (h2 p hp)⟩
      obtain ⟨s, hs, _⟩ := hD.str p.1 hh
      have hat := WideAt.atKey_mem (nval 0) (h2 p hp) hap (d := p.2) hp
      refine ⟨s, hs, ?_, ?_⟩
      · show natOf ((DataW.map es).atKey (sk s) (nval 0)) = _
        rw [← hs, hat]
      · rw [hs] at hh
        exact (hD.has_iff s).1 hh
    refine List.pairwise_map.2 (hap.imp_of_mem fun {p q} hp hq hne e => hne ?_)
    obtain ⟨s, hs, hs2, hs3⟩ := key p hp
    obtain ⟨t, ht, ht2, _⟩ := key q hq
    rw [hs, ht, hk.inj s t hs3 (by rw [hs2, ht2, e])]
  · rw [List.mem_map, vals_has hD.canon hD.nat]
    constructor
    · rintro ⟨p, hp, rfl⟩
      have h1 := (h.mem p.1 p.2).1 hp
      refine ⟨sk p.1, (hD.has_iff _).2 (by omega), ?_⟩
      rw [← h1]
      exact hD.nat.at_ _
    · rintro ⟨kl, hh, hat⟩
      obtain ⟨s, rfl, _⟩ := hD.str kl hh
      have h0 := (hD.has_iff s).1 hh
      have h1 : nget D s = k := by
        have := hD.nat.at_ (sk s)
        rw [hat] at this
        exact (nval_inj this).symm
      exact ⟨(s, k - 1), (h.mem _ _).2 (by omega), by simp only; omega⟩
theorem sumNo_rows {D : Dm} {L : List NRow} (h : Rows D L) (hD : DirOk D) (hk : OkD D) (fs : List (Nat × FileC)) : sumNo fs D = sumL (fun i => (dataNo fs (i + 1)).length) L := by
  unfold sumNo sumL
  rw [← ((rows_perm h hD hk).map fun k => (dataNo fs k).length).sum_nat, List.map_map]
  rfl
theorem sim_crash {K : Nat} {S : FsSt} {R : RSt} (h : Sim S R) (hg : FsGood K S) (n m : Int) : Sim (S.crash n m) (R.crash n m) := by
  have hlen : (min (max n 0) (R.pend.length : Int)).toNat = crashN S n := by
    unfold crashN
    rw [h.pend, List.length_map]
  have hrows : Rows (S.crashD n) ((R.pend.take (crashN S n)).foldl does R.safe) := by
    unfold FsSt.crashD
    rw [h.pend, ← List.map_take]
    exact rows_durs hg.inv (S.pend.take (crashN S n)) hg.fd (fun p hp => hg.inv.pend p (List.mem_of_mem_take hp)) (fun p hp => h.named p (List.mem_of_mem_take hp)) h.safe
  have hok : OkD (S.crashD n) := h.ok (crashN S n)
  have hdir : DirOk (S.crashD n) := (hg.durs (crashN S n)).1.dir
  have hR : R.crash n m = { R with pend := [], now := (R.pend.take (crashN S n)).foldl does R.safe, safe := (R.pend.take (crashN S n)).foldl does R.safe, nodes := R.nodes.map (cutF (max m 0).toNat), armed := 0, out := false } := by
    unfold RSt.crash
    rw [hlen]
    rfl
  have hnode : ∀ k c, numF (S.crash n m).files k = some c → (R.nodes.map (cutF (max m 0).toNat))[k - 1]? = some c := fun k c hk => by
    have hk' : numF (List.map (fun e => (e.1, cutF (max m 0).toNat e.2)) (S.files.filter fun e => (usedL (S.crashD n) (S.crashD n) []).contains e.1)) k = some c := hk
    rw [numF_map, Option.map_eq_some_iff] at hk'
    obtain ⟨c0, h1, rfl⟩ := hk'
    rw [List.getElem?_map, h.node k c0 (numF_sub (q := (usedL (S.crashD n) (S.crashD n) []).contains) h1)]
    rfl
  rw [hR]
  refine ⟨h.room, h.done, rfl, rfl, by show (R.nodes.map _).length = S.last; rw [List.length_map, h.last], hnode, hrows, hrows, rfl, fun p hp => absurd hp List.not_mem_nil, rfl, fun j => by
    have : durOf (S.crash n m).dur ((S.crash n m).pend.take j) = S.crashD n := by
      show durOf (S.crashD n) (([] : List Pend).take j) = _
      simp [durOf]
    rw [this]
    exact hok, ?_⟩
  show ((sumNo (S.crash n m).files (S.crashD n) : Nat) : Int) = ((sumL (fun i => ((R.nodes.map (cutF (max m 0).toNat)).getD i noNd).d.length) ((R.pend.take (crashN S n)).foldl does R.safe) : Nat) : Int)
  rw [sumNo_rows hrows hdir hok]
  congr 1
  refine sumL_congr fun p hp => ?_
  have h1 := (hrows.mem p.1 p.2).1 hp
  obtain ⟨c, _, _, h2⟩ := crash_file hg n m (s := p.1) (by omega)
  rw [h1] at h2
  have h3 := hnode _ _ h2
  have h4 : dataNo (S.crash n m).files (p.2 + 1) = (cutF (max m 0).toNat c).d := by
    unfold dataNo
    rw [h2]
  show (dataNo (S.crash n m).files (p.2 + 1)).length = _
  rw [h4, List.getD_eq_getElem?_getD]
  rw [Nat.add_sub_cancel] at h3
  rw [h3]
  rfl
/-! ### what is told -/
def RSt.files (R : RSt) : List Fl := R.now.map fun p => (p.1, (R.nodes.getD p.2 noNd).d)
def RSt.durable (R : RSt) : List Fl := R.safe.map fun p => (p.1, (R.nodes.getD p.2 noNd).d.take (R.nodes.getD p.2 noNd).sy)
theorem row_node {K : Nat} {S : FsSt} {R : RSt} (h : Sim S R) {D : Dm} {L : List NRow} (hr : Rows D L) (hn : NamesOk S D K) {p : NRow} (hp : p ∈ L) : nget D p.1 = p.2 + 1 ∧ ∃ c, numF S.files (p.2 + 1) = some c ∧ R.nodes.getD p.2 noNd = c := by
  have h1 := (hr.mem p.1 p.2).1 hp
  refine ⟨h1, ?_⟩
  obtain ⟨i, hi⟩ := hn.has p.1 (by omega)
  have h2 := S.idx_num (nget D p.1)
  rw [hi, h1] at h2
  refine ⟨_, h2.symm, ?_⟩
  have h3 := h.node _ _ h2.symm
  rw [Nat.add_sub_cancel] at h3
  rw [List.getD_eq_getElem?_getD, h3]
  rfl
theorem Sim.files {K : Nat} {S : FsSt} {R : RSt} (h : Sim S R) (hg : FsGood K S) : S.filesL = R.files := by
  unfold FsSt.filesL RSt.files
  rw [← h.now.keys hg.dn, List.map_map]
  refine List.map_congr_left fun p hp => ?_
  obtain ⟨h1, c, h2, h3⟩ := row_node h h.now hg.inv.names hp
  show (p.1, dataNo S.files (nget S.names p.1)) = _
  unfold dataNo
  rw [h1, h2, h3]
theorem Sim.durable {K : Nat} {S : FsSt} {R : RSt} (h : Sim S R) (hg : FsGood K S) : S.durL = R.durable := by
  unfold FsSt.durL RSt.durable
  rw [← h.safe.keys hg.dd, List.map_map]
  refine List.map_congr_left fun p hp => ?_
  obtain ⟨h1, c, h2, h3⟩ := row_node h h.safe hg.inv.dur hp
  show (p.1, durNo S.files (nget S.dur p.1)) = _
  unfold durNo
  rw [h1, h2, h3]
def RSt.list (R : RSt) (dir : ByteArray) : List ByteArray := (R.now.map (·.1)).filter fun s => Go.Proofs.YtaolddgnannojaaGreatDoor.below dir (toL s)
theorem Sim.list {K : Nat} {S : FsSt} {R : RSt} (h : Sim S R) (hg : FsGood K S) (dir : ByteArray) : S.listed dir = R.list dir := by
  have hk := h.now.keys hg.dn
  unfold RSt.list
  rw [hk]
  refine rising_eq (sort_rising ((strKeys_nodup hg.dn).filter _)) ((keysOf_rising hg.dn).filter _) fun s => ?_
  unfold FsSt.listed
  rw [List.mem_filter, mem_keysOf hg.dn, List.mem_map]
  constructor
  · rintro ⟨x, hx, rfl⟩
    obtain ⟨h1, h2⟩ := List.mem_filter.1 (List.mem_mergeSort.1 hx)
    exact ⟨(mem_strKeys hg.dn).1 h1, by rw [toL_mkS]; exact h2⟩
  · rintro ⟨h1, h2⟩
    refine ⟨toL s, List.mem_mergeSort.2 (List.mem_filter.2 ⟨(mem_strKeys hg.dn).2 (by rw [mkS_toL]; exact h1), h2⟩), mkS_toL s⟩
end Go.Proofs.YtaolddgnannojaaGreatDoor
