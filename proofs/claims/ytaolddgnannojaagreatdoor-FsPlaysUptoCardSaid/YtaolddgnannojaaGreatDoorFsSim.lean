/-
  Plain: the reference's state and the package's, side by side.
-/
import Derived.Test.YtaolddgnannojaaGreatDoorG17
import Derived.Test.YtaolddgnannojaaGreatDoorFsRpl
namespace Go.Proofs.YtaolddgnannojaaGreatDoor
open Go.RowKit Go.Maps

/-! ### sums over rows -/
def sumL (f : Nat → Nat) (l : List NRow) : Nat := (l.map fun p => f p.2).sum
theorem sumL_app (f : Nat → Nat) (a b : List NRow) : sumL f (a ++ b) = sumL f a + sumL f b := by unfold sumL; rw [List.map_append, List.sum_append]
theorem sumL_cut (f : Nat → Nat) (q : NRow → Bool) (l : List NRow) : sumL f (l.takeWhile q) + sumL f (l.dropWhile q) = sumL f l := by rw [← sumL_app, List.takeWhile_append_dropWhile]
theorem sumL_with (f : Nat → Nat) (l : List NRow) (s : ByteArray) (n : Nat) : sumL f (withN l s n) = sumL f (without l s) + f n := by
  unfold withN
  rw [sumL_app, sumL_app]
  have := sumL_cut f (fun p => decide (ltS p.1 s)) (without l s)
  have h1 : sumL f [(s, n)] = f n := by simp [sumL]
  omega
theorem without_no {l : List NRow} {s : ByteArray} (h : ∀ p ∈ l, p.1 ≠ s) : without l s = l := by
  unfold without
  exact List.filter_eq_self.2 fun p hp => by simpa using h p hp
def atF (f : Nat → Nat) : Option Nat → Nat
  | some i => f i
  | none => 0
theorem sumL_without (f : Nat → Nat) (s : ByteArray) : ∀ {l : List NRow}, l.Pairwise (fun p q => ltS p.1 q.1) → sumL f l = sumL f (without l s) + atF f (rat l s)
  | [], _ => by simp [sumL, without, rat, atF]
  | x :: l, h => by
    obtain ⟨h1, h2⟩ := List.pairwise_cons.1 h
    by_cases hx : x.1 = s
    · have hno : ∀ p ∈ l, p.1 ≠ s := fun p hp e => by
        have := h1 p hp
        rw [hx, e] at this
        exact ltS_irrefl _ this
      have e1 : without (x :: l) s = l := by
        unfold without
        rw [List.filter_cons_of_neg (by simpa using hx)]
        exact without_no hno
      have e2 : rat (x :: l) s = some x.2 := by
        unfold rat
        rw [List.find?_cons_of_pos (by simpa using hx)]
        rfl
      rw [e1, e2]
      simp only [sumL, atF, List.map_cons, List.sum_cons]
      omega
    · have ih := sumL_without f s h2
      have e1 : without (x :: l) s = x :: without l s := by
        unfold without
        rw [List.filter_cons_of_pos (by simpa using hx)]
      have e2 : rat (x :: l) s = rat l s := by
        unfold rat
        rw [List.find?_cons_of_neg (by simpa using hx)]
      rw [e1, e2]
      simp only [sumL, List.map_cons, List.sum_cons] at ih ⊢
      omega
theorem sumL_congr {f g : Nat → Nat} {l : List NRow} (h : ∀ p ∈ l, f p.2 = g p.2) : sumL f l = sumL g l := by
  unfold sumL
  rw [List.map_congr_left h]
/-! ### the reference's state -/
structure RSt where
  room : Nat
  nodes : List FileC
  now : List NRow
  safe : List NRow
  pend : List RChg
  done : Nat
  armed : Nat
  out : Bool
def noNd : FileC := ⟨[], 0⟩
def RSt.len (R : RSt) (i : Nat) : Nat := (R.nodes.getD i noNd).d.length
def RSt.size (R : RSt) : Nat := sumL R.len R.now
def RSt.downed (R : RSt) : RSt := { R with armed := 0, out := true }
def RSt.did (R : RSt) : RSt := { R with armed := R.armed - 1, done := R.done + 1 }
def RSt.change (R : RSt) (c : RChg) : RSt := { R with now := does R.now c, pend := R.pend ++ [c] }
def RSt.old (R : RSt) (s : ByteArray) : Nat × Nat := match rat R.now s with
  | some i => (R.len i, 0)
  | none => (0, 1)
def RSt.full (R : RSt) (s : ByteArray) (n : Nat) : Bool := decide ((R.room : Int) - ((R.size : Int) - (R.old s).1) < n) || decide (4000 < R.now.length + (R.old s).2)
def RSt.write (R : RSt) (s : ByteArray) (b : List UInt8) : Nat × RSt :=
  if R.out then (5, R) else if validF (toL s) then if R.full s b.length then (4, R) else if R.armed = 1 then (5, R.downed)
  else (0, ({ R.did with nodes := R.nodes ++ [⟨b, 0⟩] } : RSt).change ⟨dirOf s, ⟨#[]⟩, s, R.nodes.length⟩) else (1, R)
def RSt.node (R : RSt) (i : Nat) (c : FileC) : RSt := { R with nodes := R.nodes.set i c }
def RSt.append (R : RSt) (s : ByteArray) (b : List UInt8) : Nat × RSt :=
  if R.out then (5, R) else match rat R.now s with
    | none => (2, R)
    | some i => if (R.room : Int) - (R.size : Int) < b.length then (4, R) else if R.armed = 1 then (5, R.downed) else (0, R.did.node i ⟨(R.nodes.getD i noNd).d ++ b, (R.nodes.getD i noNd).sy⟩)
def RSt.sync (R : RSt) (s : ByteArray) : Nat × RSt :=
  if R.out then (5, R) else match rat R.now s with
    | none => (2, R)
    | some i => if R.armed = 1 then (5, R.downed) else (0, R.did.node i ⟨(R.nodes.getD i noNd).d, (R.nodes.getD i noNd).d.length⟩)
def RSt.rename (R : RSt) (a b : ByteArray) : Nat × RSt :=
  if R.out then (5, R) else match rat R.now a with
    | none => (2, R)
    | some i => if validF (toL b) then if R.armed = 1 then (5, R.downed) else (0, if a = b then R.did else R.did.change ⟨dirOf b, a, b, i⟩) else (1, R)
def RSt.remove (R : RSt) (s : ByteArray) : Nat × RSt :=
  if R.out then (5, R) else match rat R.now s with
    | none => (2, R)
    | some _ => if R.armed = 1 then (5, R.downed) else (0, R.did.change ⟨dirOf s, s, ⟨#[]⟩, 0⟩)
def RSt.lasts (R : RSt) (n : Nat) : RSt := { R with safe := (R.pend.take n).foldl does R.safe, pend := R.pend.drop n }
def lastR (ps : List RChg) (dir : ByteArray) : Nat → Nat
  | 0 => 0
  | n + 1 => if (ps.getD n ⟨⟨#[]⟩, ⟨#[]⟩, ⟨#[]⟩, 0⟩).dir = dir then n + 1 else lastR ps dir n
def RSt.syncdir (R : RSt) (dir : ByteArray) : Nat × RSt :=
  if R.out then (5, R) else if dir.size ≠ 0 ∧ validF (toL dir) = false then (1, R) else if R.armed = 1 then (5, R.downed) else (0, R.did.lasts (lastR R.pend dir R.pend.length))
def RSt.crash (R : RSt) (n m : Int) : RSt :=
  let R1 := R.lasts (min (max n 0) (R.pend.length : Int)).toNat
  { R1 with pend := [], now := R1.safe, nodes := R.nodes.map (cutF (max m 0).toNat), armed := 0, out := false }
/-! ### side by side -/
structure OkD (D : Dm) : Prop where
  inj : ∀ s t, nget D s ≠ 0 → nget D s = nget D t → s = t
  ne : nget D ⟨#[]⟩ = 0
  few : Maps.size D ≤ 4000
structure Sim (S : FsSt) (R : RSt) : Prop where
  room : R.room = S.quota
  done : R.done = S.steps
  armed : R.armed = S.armed
  out : R.out = S.down
  last : R.nodes.length = S.last
  node : ∀ k c, numF S.files k = some c → R.nodes[k - 1]? = some c
  now : Rows S.names R.now
  safe : Rows S.dur R.safe
  pend : R.pend = S.pend.map rch
  named : ∀ p ∈ S.pend, p.chg.named
  names : S.names = durOf S.dur S.pend
  ok : ∀ j, OkD (durOf S.dur (S.pend.take j))
  size : S.size = (R.size : Int)
theorem Sim.okN {S : FsSt} {R : RSt} (h : Sim S R) : OkD S.names := by
  have := h.ok S.pend.length
  rwa [List.take_length, ← h.names] at this
/-- a name's file on both sides -/
theorem Sim.at_ {K : Nat} {S : FsSt} {R : RSt} (h : Sim S R) (hg : FsGood K S) (s : ByteArray) :
    (rat R.now s = none ∧ S.of s = none ∧ nget S.names s = 0) ∨ ∃ i, S.of s = some i ∧ nget S.names s ≠ 0 ∧ rat R.now s = some (nget S.names s - 1) ∧ R.nodes[nget S.names s - 1]? = some (S.fileD i).2 ∧ numF S.files (nget S.names s) = some (S.fileD i).2 := by
  rw [h.now.rat]
  by_cases h0 : nget S.names s = 0
  · left
    rw [if_pos h0]
    refine ⟨rfl, ?_, h0⟩
    cases ho : S.of s with
    | none => rfl
    | some i =>
      unfold FsSt.of at ho
      rw [h0] at ho
      have := (hg.inv.no0 ((S.idx_iff 0).1 ⟨i, ho⟩)).1
      omega
  · right
    obtain ⟨i, hi⟩ := hg.inv.names.has s h0
    have h1 := S.idx_num (nget S.names s)
    rw [hi] at h1
    rw [if_neg h0]
    exact ⟨i, hi, h0, rfl, h.node _ _ h1.symm, h1.symm⟩
theorem Sim.inRange {K : Nat} {S : FsSt} {R : RSt} (h : Sim S R) (hg : FsGood K S) : ∀ p ∈ R.now, p.2 < R.nodes.length := fun p hp => by
  have h1 := (h.now.mem p.1 p.2).1 hp
  rcases h.at_ hg p.1 with ⟨_, _, h2⟩ | ⟨i, _, _, _, h2, _⟩
  · omega
  · have := (List.getElem?_eq_some_iff.1 h2).1
    rw [h1] at this
    simpa using this
theorem Sim.lenAt {K : Nat} {S : FsSt} {R : RSt} (h : Sim S R) (hg : FsGood K S) (s : ByteArray) : (rat R.now s = none ∧ S.of s = none) ∨ ∃ i k, S.of s = some i ∧ rat R.now s = some k ∧ R.len k = S.lenAt i := by
  rcases h.at_ hg s with ⟨h1, h2, _⟩ | ⟨i, h1, _, h2, h3, _⟩
  · exact .inl ⟨h1, h2⟩
  · refine .inr ⟨i, _, h1, h2, ?_⟩
    unfold RSt.len FsSt.lenAt
    rw [List.getD_eq_getElem?_getD, h3]
    rfl
theorem Sim.full {K : Nat} {S : FsSt} {R : RSt} (h : Sim S R) (hg : FsGood K S) (s : ByteArray) (n : Nat) : S.full (S.more s n).1 (S.more s n).2 = R.full s n := by
  have hl := h.now.len hg.dn
  have hb : ∃ o t : Nat, S.more s n = ((n : Int) - o, (t : Int)) ∧ R.old s = (o, t) ∧ (t = 0 ∨ t = 1) := by
    rcases h.lenAt hg s with ⟨h1, h2⟩ | ⟨i, k, h1, h2, h3⟩
    · refine ⟨0, 1, ?_, ?_, .inr rfl⟩
      · unfold FsSt.more
        rw [h2]
        simp
      · unfold RSt.old
        rw [h1]
    · refine ⟨S.lenAt i, 0, ?_, ?_, .inl rfl⟩
      · unfold FsSt.more
        rw [h1]
        rfl
      · unfold RSt.old
        rw [h2]
        simp only
        rw [h3]
  obtain ⟨o, t, e1, e2, _⟩ := hb
  unfold FsSt.full RSt.full
  rw [e1, e2, h.room, ← h.size, hl]
  simp only
  congr 1
  · congr 1
    rw [eq_iff_iff]
    omega
  · congr 1
    rw [eq_iff_iff]
    omega
/-- one that goes down -/
theorem Sim.fails {S : FsSt} {R : RSt} (h : Sim S R) : Sim S.fails R.downed :=
  ⟨h.room, h.done, rfl, rfl, h.last, h.node, h.now, h.safe, h.pend, h.named, h.names, h.ok, h.size⟩
theorem Sim.did {S : FsSt} {R : RSt} (h : Sim S R) : Sim S.tick.stepped R.did :=
  ⟨h.room, by show R.done + 1 = S.steps + 1; rw [h.done], by show R.armed - 1 = S.armed - 1; rw [h.armed], h.out, h.last, h.node, h.now, h.safe, h.pend, h.named, h.names, h.ok, h.size⟩
/-- a change of names on both sides -/
theorem Sim.change {K : Nat} {S S' : FsSt} {R R' : RSt} (h : Sim S R) (hg : FsGood K S) (p : Pend) (hp : p.chg.named) (hok : OkD (p.chg.on S.names))
    (e1 : S'.names = p.chg.on S.names) (e2 : S'.pend = S.pend ++ [p]) (e3 : S'.dur = S.dur) (e4 : R'.now = does R.now (rch p)) (e5 : R'.pend = R.pend ++ [rch p]) (e6 : R'.safe = R.safe)
    (r1 : R'.room = S'.quota) (r2 : R'.done = S'.steps) (r3 : R'.armed = S'.armed) (r4 : R'.out = S'.down) (r5 : R'.nodes.length = S'.last) (r6 : ∀ k c, numF S'.files k = some c → R'.nodes[k - 1]? = some c) (r7 : S'.size = (R'.size : Int)) : Sim S' R' := by
  refine ⟨r1, r2, r3, r4, r5, r6, by rw [e1, e4]; exact h.now.chg hg.dn hp, by rw [e3, e6]; exact h.safe, by rw [e5, e2, h.pend]; simp, fun q hq => ?_, by rw [e1, e2, e3, durOf_snoc, ← h.names], fun j => ?_, r7⟩
  · rw [e2] at hq
    rcases List.mem_append.1 hq with h1 | h1
    · exact h.named q h1
    · rw [List.mem_singleton.1 h1]; exact hp
  · rw [e2, e3]
    by_cases hj : j ≤ S.pend.length
    · rw [List.take_append_of_le_length hj]
      exact h.ok j
    · rw [List.take_of_length_le (by simp; omega), durOf_snoc, ← h.names]
      exact hok
theorem ok_put {D : Dm} (h : OkD D) (hD : DirOk D) {s : ByteArray} {k : Nat} (hs : s.size ≠ 0) (hk : ∀ t, t ≠ s → nget D t ≠ k) (hz : Maps.size (D.put (sk s) (nval k)) ≤ 4000) : OkD (D.put (sk s) (nval k)) := by
  refine ⟨fun a b h1 h2 => ?_, ?_, hz⟩
  · rw [nget_put hD.tidy.isMap] at h1 h2
    rw [nget_put hD.tidy.isMap] at h2
    by_cases ha : a = s <;> by_cases hb : b = s
    · rw [ha, hb]
    · rw [if_pos ha, if_neg hb] at h2
      exact absurd h2.symm (hk b hb)
    · rw [if_neg ha, if_pos hb] at h2
      exact absurd h2 (hk a ha)
    · rw [if_neg ha] at h1 h2
      rw [if_neg hb] at h2
      exact h.inj a b h1 h2
  · rw [nget_put hD.tidy.isMap, if_neg]
    · exact h.ne
    · intro e
      rw [← e] at hs
      exact hs rfl
theorem ok_del {D : Dm} (h : OkD D) (hD : DirOk D) (s : ByteArray) : OkD (D.del (sk s)) := by
  refine ⟨fun a b h1 h2 => ?_, ?_, Nat.le_trans (size_del_le hD s) h.few⟩
  · rw [nget_del] at h1 h2
    rw [nget_del] at h2
    by_cases ha : a = s
    · rw [if_pos ha] at h1
      exact absurd rfl h1
    · rw [if_neg ha] at h1 h2
      by_cases hb : b = s
      · rw [if_pos hb] at h2
        exact absurd h2 h1
      · rw [if_neg hb] at h2
        exact h.inj a b h1 h2
  · rw [nget_del]
    split
    · rfl
    · exact h.ne
theorem named_pos {D : Dm} (h : OkD D) {s : ByteArray} (hs : nget D s ≠ 0) : s.size ≠ 0 := fun e => by
  have : s = ⟨#[]⟩ := by
    apply toL_inj
    apply List.eq_nil_of_length_eq_zero
    unfold toL
    simpa using e
  rw [this] at hs
  exact hs h.ne
theorem FsGood.names_le {K : Nat} {S : FsSt} (h : FsGood K S) (s : ByteArray) : nget S.names s ≤ S.last := by
  by_cases h0 : nget S.names s = 0
  · omega
  · obtain ⟨i, hi⟩ := h.inv.names.has s h0
    have h1 := S.idx_num (nget S.names s)
    rw [hi] at h1
    exact h.num_le h1.symm
/-- an answer on both sides -/
def Both (r : Nat × FsSt) (r' : Nat × RSt) : Prop := r.1 = r'.1 ∧ Sim r.2 r'.2
theorem sim_write {K : Nat} {S : FsSt} {R : RSt} (h : Sim S R) (hg : FsGood K S) (s : ByteArray) (d : List UInt8) : Both (S.write s d) (R.write s d) := by
  have hfu := h.full hg s d.length
  unfold FsSt.write RSt.write
  rw [← h.out]
  by_cases h1 : R.out = true
  · rw [if_pos h1, if_pos h1]
    exact ⟨rfl, h⟩
  rw [if_neg h1, if_neg h1]
  by_cases h2 : validF (toL s) = true
  · rw [if_pos h2, if_pos h2, ← hfu]
    by_cases h3 : S.full (S.more s d.length).1 (S.more s d.length).2 = true
    · rw [if_pos h3, if_pos h3]
      exact ⟨rfl, h⟩
    · rw [if_neg h3, if_neg h3, h.armed]
      unfold FsSt.wrErr FsSt.wrote
      by_cases h4 : S.armed = 1
      · rw [if_pos h4, if_pos h4, if_pos h4]
        exact ⟨rfl, h.fails⟩
      · rw [if_neg h4, if_neg h4, if_neg h4]
        refine ⟨rfl, ?_⟩
        have hnew : ∀ t, nget S.names t ≠ S.last + 1 := fun t => by have := hg.names_le t; omega
        have hs0 : s.size ≠ 0 := by have := valid_pos h2; omega
        have hsz : Maps.size (S.names.put (sk s) (nval (S.last + 1))) ≤ 4000 := by
          have hfe := h.okN.few
          rw [size_put hg.dn.tidy]
          unfold FsSt.full FsSt.more at h3
          rcases h.at_ hg s with ⟨_, k2, k3⟩ | ⟨i, k1, k2, _⟩
          · rw [k2] at h3
            simp only [Bool.or_eq_true, decide_eq_true_eq] at h3
            split <;> omega
          · rw [if_pos ((hg.dn.has_iff s).2 k2)]
            exact hfe
        have hp : Chg.named (.put s (S.last + 1)) := ⟨hs0, by omega⟩
        have hok : OkD ((Chg.put s (S.last + 1)).on S.names) := ok_put h.okN hg.dn hs0 (fun t _ => hnew t) hsz
        have hrc : rch ⟨dirOf s, S.last + 1, .put s (S.last + 1)⟩ = ⟨dirOf s, ⟨#[]⟩, s, R.nodes.length⟩ := by
          rw [h.last]; rfl
        refine h.change hg ⟨dirOf s, S.last + 1, .put s (S.last + 1)⟩ hp hok rfl rfl rfl (by rw [hrc]; rfl) (by rw [hrc]; rfl) rfl h.room (by show R.done + 1 = S.steps + 1; rw [h.done]) (by show R.armed - 1 = S.armed - 1; rw [h.armed]) h.out
          (by show (R.nodes ++ [_]).length = S.last + 1; rw [List.length_append, h.last]; rfl) (fun k c hk => ?_) ?_
        · have hk' : numF (S.tick.write1 s d (S.more s d.length).1).files k = some c := hk
          rw [write_num hg.tick] at hk'
          show (R.nodes ++ [⟨d, 0⟩])[k - 1]? = some c
          by_cases e : k = S.tick.last + 1
          · rw [if_pos e] at hk'
            cases hk'
            rw [e, List.getElem?_append_right (by rw [h.last]; show S.last ≤ S.last + 1 - 1; omega), h.last]
            show [_][S.last + 1 - 1 - S.last]? = _
            rw [show S.last + 1 - 1 - S.last = 0 by omega]
            rfl
          · rw [if_neg e] at hk'
            have h9 := h.node k c hk'
            rw [List.getElem?_append_left (List.getElem?_eq_some_iff.1 h9).1]
            exact h9
        · show S.size + (S.more s d.length).1 = ((sumL (RSt.len ({ R.did with nodes := R.nodes ++ [⟨d, 0⟩] } : RSt)) (does R.now ⟨dirOf s, ⟨#[]⟩, s, R.nodes.length⟩) : Nat) : Int)
          have hd : does R.now ⟨dirOf s, ⟨#[]⟩, s, R.nodes.length⟩ = withN R.now s R.nodes.length := by
            unfold does
            simp only
            rw [if_pos (show (⟨#[]⟩ : ByteArray).size = 0 from rfl), if_neg hs0]
          have hin := h.inRange hg
          have e1 : RSt.len ({ R.did with nodes := R.nodes ++ [⟨d, 0⟩] } : RSt) R.nodes.length = d.length := by
            unfold RSt.len
            simp [List.getD_eq_getElem?_getD]
          have e2 : sumL (RSt.len ({ R.did with nodes := R.nodes ++ [⟨d, 0⟩] } : RSt)) (without R.now s) = sumL R.len (without R.now s) := sumL_congr fun p hp => by
            have hp2 : p ∈ R.now := by unfold without at hp; exact (List.mem_filter.1 hp).1
            unfold RSt.len
            simp only
            rw [List.getD_eq_getElem?_getD, List.getD_eq_getElem?_getD, List.getElem?_append_left (hin p hp2)]
          have e3 := sumL_without R.len s h.now.ord
          have e4 := h.size
          unfold RSt.size at e4
          rw [hd, sumL_with, e1, e2]
          unfold FsSt.more
          rcases h.lenAt hg s with ⟨k1, k2⟩ | ⟨i, k, k1, k2, k3⟩
          · rw [k1] at e3
            rw [k2]
            simp only [atF] at e3 ⊢
            omega
          · rw [k2] at e3
            rw [k1]
            simp only [atF] at e3 ⊢
            omega
  · rw [if_neg h2, if_neg h2]
    exact ⟨rfl, h⟩
end Go.Proofs.YtaolddgnannojaaGreatDoor
