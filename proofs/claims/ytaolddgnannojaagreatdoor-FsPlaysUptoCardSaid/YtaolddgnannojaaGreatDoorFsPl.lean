/-
  A file system, plain: what its maps of names hold; what each operation keeps.
-/
import Derived.Test.YtaolddgnannojaaGreatDoorG14
import Derived.Sort.KeysCollected
namespace Go.Proofs.YtaolddgnannojaaGreatDoor
open Go.RowKit Go.Maps

theorem sk_inj {a b : ByteArray} (h : sk a = sk b) : a = b := by
  unfold sk at h
  simp only [Lit.string.injEq] at h
  exact toL_inj h
theorem sk_key (s : ByteArray) : WideAt.IsKeyLit (sk s) := by simp [sk, WideAt.IsKeyLit]
theorem sk_mk (x : List UInt8) : Lit.string x = sk ⟨x.toArray⟩ := by simp [sk]
theorem nget_put {D : Dm} (hD : IsMap D) (s t : ByteArray) (k : Nat) : nget (D.put (sk s) (nval k)) t = if t = s then k else nget D t := by
  unfold nget kget
  split
  · rename_i h
    subst h
    rw [atKey_put_same hD (sk_key t)]
    rfl
  · rename_i h
    rw [atKey_put_other fun e => h (sk_inj e)]
theorem nget_del (D : Dm) (s t : ByteArray) : nget (D.del (sk s)) t = if t = s then 0 else nget D t := by
  unfold nget kget
  split
  · rename_i h
    subst h
    rw [atKey_del_same]
    rfl
  · rename_i h
    rw [atKey_del_other fun e => h (sk_inj e)]
theorem canon_put {D : Dm} (h : Canon D) (hs : ∀ kl, has D kl = true → ∃ s : ByteArray, kl = sk s) (s : ByteArray) (k : Nat) : Canon (D.put (sk s) (nval k)) := by
  obtain ⟨es, rfl, h1, h2⟩ := h
  have hstr : ∀ p ∈ es, ∃ x, p.1 = Lit.string x := fun p hp => by
    obtain ⟨t, ht⟩ := hs p.1 (List.any_eq_true.2 ⟨p, hp, WideAt.sameKey_self (h2 p hp)⟩)
    exact ⟨_, ht⟩
  refine ⟨_, rfl, ChangeMaps.insert_sorted ⟨_, rfl⟩ _ (h1.filter _) (fun p hp => hstr p (List.mem_filter.1 hp).1) (fun p hp => ?_), fun p hp => ?_⟩
  · have := (List.mem_filter.1 hp).2
    intro e
    rw [e, WideAt.sameKey_self (sk_key s)] at this
    cases this
  · rcases ChangeMaps.mem_insert_iff.1 hp with rfl | hp
    · exact sk_key s
    · exact h2 p (List.mem_filter.1 hp).1
theorem canon_del {D : Dm} (h : Canon D) (k : Lit) : Canon (D.del k) := by
  obtain ⟨es, rfl, h1, h2⟩ := h
  exact ⟨_, rfl, h1.filter _, fun p hp => h2 p (List.mem_filter.1 hp).1⟩
theorem canon_tidy {D : Dm} (h : Canon D) : Tidy D := by
  obtain ⟨es, rfl, h1, h2⟩ := h
  exact ⟨es, rfl, apart_of_rising h1⟩
/-- a map of names: each has a number, none of them 0 -/
structure DirOk (D : Dm) : Prop where
  canon : Canon D
  nat : Nats D
  str : ∀ kl, has D kl = true → ∃ s : ByteArray, kl = sk s ∧ s.size ≤ 1048576
  pos : ∀ kl, has D kl = true → kget D kl ≠ 0
theorem DirOk.tidy {D : Dm} (h : DirOk D) : Tidy D := canon_tidy h.canon
theorem DirOk.made : DirOk (.map []) := ⟨canon_empty, Nats.made, fun _ h => by simp [has] at h, fun _ h => by simp [has] at h⟩
theorem DirOk.has_iff {D : Dm} (h : DirOk D) (s : ByteArray) : has D (sk s) = true ↔ nget D s ≠ 0 := by
  constructor
  · exact fun hh => h.pos _ hh
  · intro hn
    cases hh : has D (sk s) with
    | true => rfl
    | false =>
      refine absurd ?_ hn
      unfold nget kget
      rw [atKey_of_not_has hh]
      rfl
theorem DirOk.put {D : Dm} (h : DirOk D) {s : ByteArray} (hs : s.size ≤ 1048576) {k : Nat} (hk : k ≠ 0) : DirOk (D.put (sk s) (nval k)) := by
  refine ⟨canon_put h.canon (fun kl hh => by obtain ⟨t, ht, _⟩ := h.str kl hh; exact ⟨t, ht⟩) s k, h.nat.put k, fun kl hh => ?_, fun kl hh => ?_⟩
  · by_cases e : kl = sk s
    · exact ⟨s, e, hs⟩
    · rw [has_put_other e] at hh
      exact h.str kl hh
  · by_cases e : kl = sk s
    · subst e
      unfold kget
      rw [atKey_put_same h.tidy.isMap (sk_key s)]
      exact hk
    · rw [has_put_other e] at hh
      unfold kget
      rw [atKey_put_other e]
      exact h.pos kl hh
theorem DirOk.del {D : Dm} (h : DirOk D) (s : ByteArray) : DirOk (D.del (sk s)) := by
  refine ⟨canon_del h.canon _, h.nat.del s, fun kl hh => ?_, fun kl hh => ?_⟩
  · by_cases e : kl = sk s
    · subst e; rw [has_del_same] at hh; cases hh
    · rw [has_del_other e] at hh; exact h.str kl hh
  · by_cases e : kl = sk s
    · subst e; rw [has_del_same] at hh; cases hh
    · rw [has_del_other e] at hh
      unfold kget
      rw [atKey_del_other e]
      exact h.pos kl hh
theorem DirOk.short {D : Dm} (h : DirOk D) {s : ByteArray} (hn : nget D s ≠ 0) : s.size ≤ 1048576 := by
  obtain ⟨t, ht, hs⟩ := h.str _ ((h.has_iff s).2 hn)
  rw [sk_inj ht]
  exact hs
theorem size_put_le {D : Dm} (h : DirOk D) (s : ByteArray) (k : Nat) : Maps.size (D.put (sk s) (nval k)) ≤ Maps.size D + 1 := by
  rw [size_put h.tidy]
  split <;> omega
theorem size_del_le {D : Dm} (h : DirOk D) (s : ByteArray) : Maps.size (D.del (sk s)) ≤ Maps.size D := by
  have := size_del (k := sk s) h.tidy
  omega
/-! ### files by their numbers -/
def numF (fs : List (Nat × FileC)) (k : Nat) : Option FileC := (fs.find? fun e => e.1 == k).map (·.2)
theorem FsSt.idx_map (S : FsSt) (k : Nat) : S.idx k = (S.files.map (·.1)).findIdx? (· == k) := by
  unfold FsSt.idx
  rw [List.findIdx?_map]
  rfl
theorem FsSt.idx_iff (S : FsSt) (k : Nat) : (∃ i, S.idx k = some i) ↔ k ∈ S.files.map (·.1) := by
  rw [← Option.isSome_iff_exists]
  unfold FsSt.idx
  rw [List.findIdx?_isSome, List.any_eq_true, List.mem_map]
  constructor
  · rintro ⟨e, he, hk⟩; exact ⟨e, he, by simpa using hk⟩
  · rintro ⟨e, he, hk⟩; exact ⟨e, he, by simpa using hk⟩
theorem FsSt.idx_num (S : FsSt) (k : Nat) : (S.idx k).map (fun i => (S.fileD i).2) = numF S.files k := by
  unfold FsSt.idx numF FsSt.fileD
  induction S.files with
  | nil => rfl
  | cons e l ih =>
    rw [List.findIdx?_cons, List.find?_cons]
    cases h : e.1 == k with
    | true => simp
    | false =>
      simp only [Bool.false_eq_true, if_false]
      rw [← ih]
      cases l.findIdx? (fun p => p.1 == k) <;> simp
theorem numF_none {fs : List (Nat × FileC)} {k : Nat} : numF fs k = none ↔ k ∉ fs.map (·.1) := by
  unfold numF
  rw [Option.map_eq_none_iff, List.find?_eq_none, List.mem_map]
  constructor
  · rintro h ⟨e, he, rfl⟩
    exact absurd BEq.rfl (h e he)
  · intro h e he hk
    exact h ⟨e, he, by simpa using hk⟩
theorem numF_some {fs : List (Nat × FileC)} {k : Nat} (h : k ∈ fs.map (·.1)) : ∃ c, numF fs k = some c := by
  cases h2 : numF fs k with
  | some c => exact ⟨c, rfl⟩
  | none => exact absurd h (numF_none.1 h2)
theorem numF_mem {fs : List (Nat × FileC)} {k : Nat} {c : FileC} (h : numF fs k = some c) : (k, c) ∈ fs := by
  unfold numF at h
  rw [Option.map_eq_some_iff] at h
  obtain ⟨e, he, rfl⟩ := h
  have h1 := List.mem_of_find?_eq_some he
  have h2 := List.find?_some he
  simp at h2
  subst h2
  exact h1
theorem numF_filter {q : Nat → Bool} {fs : List (Nat × FileC)} {k : Nat} (hk : q k = true) : numF (fs.filter fun e => q e.1) k = numF fs k := by
  unfold numF
  rw [find_filter_keep]
  intro p hp
  simp at hp
  rw [hp]
  exact hk
theorem numF_map (f : FileC → FileC) (fs : List (Nat × FileC)) (k : Nat) : numF (fs.map fun e => (e.1, f e.2)) k = (numF fs k).map f := by
  unfold numF
  rw [List.find?_map]
  simp [Function.comp_def]
theorem numF_append (fs gs : List (Nat × FileC)) (k : Nat) : numF (fs ++ gs) k = (numF fs k).or (numF gs k) := by
  unfold numF
  rw [List.find?_append]
  cases fs.find? _ <;> simp
/-! ### changes of names -/
/-- the files of the map's names are there -/
structure Fit (S : FsSt) (K : Nat) (D : Dm) : Prop where
  dir : DirOk D
  has : ∀ s : ByteArray, nget D s ≠ 0 → nget D s ∈ S.files.map (·.1)
  most : ∀ s : ByteArray, nget D s ≤ K
theorem Fit.names {S : FsSt} {K : Nat} {D : Dm} (h : Fit S K D) (hs : Maps.size D ≤ K) : NamesOk S D K :=
  ⟨hs, fun _ hn => h.dir.short hn, fun s hn => (S.idx_iff _).2 (h.has s hn), h.most⟩
theorem Fit.of {S : FsSt} {K : Nat} {D : Dm} (h : NamesOk S D K) (hd : DirOk D) : Fit S K D := ⟨hd, fun s hn => (S.idx_iff _).1 (h.has s hn), h.most⟩
theorem FsInv.no0 {K : Nat} {S : FsSt} (h : FsInv K S) {k : Nat} (hk : k ∈ S.files.map (·.1)) : k ≠ 0 ∧ k ≤ K := by
  obtain ⟨e, he, rfl⟩ := List.mem_map.1 hk
  have h1 := h.rng e he
  have h2 := h.last
  omega
theorem Fit.put {S : FsSt} {K : Nat} {D : Dm} (h : Fit S K D) (hi : FsInv K S) {s : ByteArray} (hs : s.size ≤ 1048576) {k : Nat} (hk : k ∈ S.files.map (·.1)) : Fit S K (D.put (sk s) (nval k)) := by
  have h0 := hi.no0 hk
  refine ⟨h.dir.put hs h0.1, fun t ht => ?_, fun t => ?_⟩
  · rw [nget_put h.dir.tidy.isMap] at ht ⊢
    split
    · exact hk
    · rename_i e
      rw [if_neg e] at ht
      exact h.has t ht
  · rw [nget_put h.dir.tidy.isMap]
    split
    · exact h0.2
    · exact h.most t
theorem Fit.del {S : FsSt} {K : Nat} {D : Dm} (h : Fit S K D) (s : ByteArray) : Fit S K (D.del (sk s)) := by
  refine ⟨h.dir.del s, fun t ht => ?_, fun t => ?_⟩
  · rw [nget_del] at ht ⊢
    split
    · rename_i e
      rw [if_pos e] at ht
      exact absurd rfl ht
    · rename_i e
      rw [if_neg e] at ht
      exact h.has t ht
  · rw [nget_del]
    split
    · exact Nat.zero_le _
    · exact h.most t
theorem Fit.chg {S : FsSt} {K : Nat} {D : Dm} (h : Fit S K D) (hi : FsInv K S) {c : Chg} {n : Nat} (hc : c.ok S K n) : Fit S K (c.on D) ∧ Maps.size (c.on D) ≤ Maps.size D + 1 := by
  cases c with
  | put s k => exact ⟨h.put hi hc.1 ((S.idx_iff _).1 hc.2.2.2), size_put_le h.dir s k⟩
  | move s t k =>
    refine ⟨(h.del s).put hi hc.2.1 ((S.idx_iff _).1 hc.2.2.2.2), ?_⟩
    have h1 := size_put_le (h.dir.del s) t k
    have h2 := size_del_le h.dir s
    show Maps.size ((D.del (sk s)).put (sk t) (nval k)) ≤ _
    omega
  | del s =>
    refine ⟨h.del s, ?_⟩
    have h2 := size_del_le h.dir s
    show Maps.size (D.del (sk s)) ≤ _
    omega
theorem Fit.durs {S : FsSt} {K : Nat} (hi : FsInv K S) : ∀ (P : List Pend) {D : Dm}, Fit S K D → (∀ p ∈ P, p.chg.ok S K p.file) → Fit S K (durOf D P) ∧ Maps.size (durOf D P) ≤ Maps.size D + P.length
  | [], _, h, _ => ⟨h, Nat.le_refl _⟩
  | p :: P, D, h, hp => by
    obtain ⟨h1, h2⟩ := h.chg hi (hp p (by simp))
    obtain ⟨h3, h4⟩ := Fit.durs hi P h1 fun q hq => hp q (by simp [hq])
    refine ⟨h3, ?_⟩
    show Maps.size (durOf (p.chg.on D) P) ≤ _
    simp only [List.length_cons]
    omega
/-! ### all that is kept -/
structure FsGood (K : Nat) (S : FsSt) : Prop where
  inv : FsInv K S
  dn : DirOk S.names
  dd : DirOk S.dur
  room : Maps.size S.dur + S.pend.length ≤ K
theorem FsGood.fn {K : Nat} {S : FsSt} (h : FsGood K S) : Fit S K S.names := Fit.of h.inv.names h.dn
theorem FsGood.fd {K : Nat} {S : FsSt} (h : FsGood K S) : Fit S K S.dur := Fit.of h.inv.dur h.dd
theorem FsGood.durs {K : Nat} {S : FsSt} (h : FsGood K S) (n : Nat) : Fit S K (durOf S.dur (S.pend.take n)) ∧ Maps.size (durOf S.dur (S.pend.take n)) ≤ Maps.size S.dur + (S.pend.take n).length :=
  Fit.durs h.inv (S.pend.take n) h.fd fun p hp => h.inv.pend p (List.mem_of_mem_take hp)
theorem FsGood.durRoom {K : Nat} {S : FsSt} (h : FsGood K S) (hK : K ≤ 1048576) (n : Nat) : DurRoom S n := fun k _ => by
  have h1 := (h.durs k).2
  have h2 := h.room
  have h3 : (S.pend.take k).length ≤ S.pend.length := by rw [List.length_take]; omega
  omega
theorem NamesOk.mono {S S' : FsSt} {D : Dm} {K K' : Nat} (h : NamesOk S D K) (hK : K ≤ K') (hs : ∀ k, k ∈ S.files.map (·.1) → k ∈ S'.files.map (·.1)) : NamesOk S' D K' :=
  ⟨Nat.le_trans h.size hK, h.short, fun s hn => (S'.idx_iff _).2 (hs _ ((S.idx_iff _).1 (h.has s hn))), fun s => Nat.le_trans (h.most s) hK⟩
theorem Chg.ok.mono {S S' : FsSt} {c : Chg} {n K K' : Nat} (h : c.ok S K n) (hK : K ≤ K') (hs : ∀ k, k ∈ S.files.map (·.1) → k ∈ S'.files.map (·.1)) : c.ok S' K' n := by
  cases c with
  | put s k => exact ⟨h.1, Nat.le_trans h.2.1 hK, h.2.2.1, (S'.idx_iff _).2 (hs _ ((S.idx_iff _).1 h.2.2.2))⟩
  | move s t k => exact ⟨h.1, h.2.1, Nat.le_trans h.2.2.1 hK, h.2.2.2.1, (S'.idx_iff _).2 (hs _ ((S.idx_iff _).1 h.2.2.2.2))⟩
  | del s => exact h
theorem sq_le {K K' : Nat} (h : K ≤ K') : ((K : Int) * K) ≤ (K' : Int) * K' := by
  have := Nat.mul_le_mul h h
  exact_mod_cast this
theorem sq_more {K K' d : Nat} (h : K + 1 + d ≤ K') : ((K : Int) * K) + K + d ≤ (K' : Int) * K' := by
  have h1 := Nat.mul_le_mul h h
  have h2 : K * K + K + d ≤ (K + 1 + d) * (K + 1 + d) := by
    have : (K + 1 + d) * (K + 1 + d) = (K + 1 + d) * K + (K + 1 + d) * (1 + d) := by rw [← Nat.mul_add]; congr 1; omega
    have h3 : K * K ≤ (K + 1 + d) * K := Nat.mul_le_mul_right K (by omega)
    have h4 : (K + 1 + d) * 1 ≤ (K + 1 + d) * (1 + d) := Nat.mul_le_mul_left _ (by omega)
    omega
  have h5 : K * K + K + d ≤ K' * K' := Nat.le_trans h2 h1
  exact_mod_cast h5
theorem FsInv.mono {K K' : Nat} {S : FsSt} (h : FsInv K S) (hK : K ≤ K') : FsInv K' S :=
  ⟨h.quota, Nat.le_trans h.last hK, h.ord, h.rng, Nat.le_trans h.many hK, fun e he => ⟨(h.sy e he).1, Nat.le_trans (h.sy e he).2 hK⟩, h.names.mono hK fun _ h => h, h.dur.mono hK fun _ h => h, Nat.le_trans h.pends hK,
    fun p hp => (h.pend p hp).mono hK fun _ h => h, by have := sq_le hK; have := h.size; omega, Nat.le_trans h.steps hK, h.armed⟩
theorem FsGood.mono {K K' : Nat} {S : FsSt} (h : FsGood K S) (hK : K ≤ K') : FsGood K' S := ⟨h.inv.mono hK, h.dn, h.dd, Nat.le_trans h.room hK⟩
theorem good_new (q : Int) : FsGood 0 (newS q) := by
  have hn : NamesOk (newS q) (.map []) 0 := ⟨Nat.le_refl _, fun s h => absurd rfl h, fun s h => absurd rfl h, fun s => Nat.le_refl _⟩
  refine ⟨⟨?_, Nat.le_refl _, List.Pairwise.nil, ?_, Nat.le_refl _, ?_, hn, hn, Nat.le_refl _, ?_, ?_, Nat.le_refl _, ?_⟩, DirOk.made, DirOk.made, Nat.le_refl _⟩
  · show (min (max q 0) 67108864).toNat ≤ _
    omega
  · intro e he; exact absurd he (by simp [newS])
  · intro e he; exact absurd he (by simp [newS])
  · intro e he; exact absurd he (by simp [newS])
  · show -((0 : Int) * 0) ≤ 0 ∧ (0 : Int) ≤ 0 * 0
    omega
  · show 0 ≤ 9223372036854775807
    omega
theorem FsGood.tick {K : Nat} {S : FsSt} (h : FsGood K S) : FsGood K S.tick := ⟨h.inv.tick, h.dn, h.dd, h.room⟩
theorem FsGood.stepped {K : Nat} {S : FsSt} (h : FsGood K S) (hs : S.steps + 1 ≤ K) : FsGood K S.stepped :=
  ⟨⟨h.inv.quota, h.inv.last, h.inv.ord, h.inv.rng, h.inv.many, h.inv.sy, ⟨h.inv.names.size, h.inv.names.short, h.inv.names.has, h.inv.names.most⟩, ⟨h.inv.dur.size, h.inv.dur.short, h.inv.dur.has, h.inv.dur.most⟩, h.inv.pends, h.inv.pend, h.inv.size, hs, h.inv.armed⟩, h.dn, h.dd, h.room⟩
theorem FsGood.fails {K : Nat} {S : FsSt} (h : FsGood K S) : FsGood K S.fails :=
  ⟨⟨h.inv.quota, h.inv.last, h.inv.ord, h.inv.rng, h.inv.many, h.inv.sy, ⟨h.inv.names.size, h.inv.names.short, h.inv.names.has, h.inv.names.most⟩, ⟨h.inv.dur.size, h.inv.dur.short, h.inv.dur.has, h.inv.dur.most⟩, h.inv.pends, h.inv.pend, h.inv.size, h.inv.steps, by show 0 ≤ 9223372036854775807; omega⟩, h.dn, h.dd, h.room⟩
theorem FsGood.arm {K : Nat} {S : FsSt} (h : FsGood K S) (n : Nat) (hn : n ≤ 9223372036854775807) : FsGood K { S with armed := n } :=
  ⟨⟨h.inv.quota, h.inv.last, h.inv.ord, h.inv.rng, h.inv.many, h.inv.sy, ⟨h.inv.names.size, h.inv.names.short, h.inv.names.has, h.inv.names.most⟩, ⟨h.inv.dur.size, h.inv.dur.short, h.inv.dur.has, h.inv.dur.most⟩, h.inv.pends, h.inv.pend, h.inv.size, h.inv.steps, hn⟩, h.dn, h.dd, h.room⟩
theorem FsGood.wrote {K K' : Nat} {S S2 : FsSt} (h : FsGood K S) (h2 : FsGood K' S2) (hK : K ≤ K') (hs : S2.steps + 1 ≤ K') : FsGood K' (S.wrote S2) := by
  unfold FsSt.wrote
  split
  · exact h.fails.mono hK
  · exact h2.stepped hs
/-- names turned: a change done and laid up -/
theorem FsGood.changes {K : Nat} {S : FsSt} (h : FsGood K S) (p : Pend) (hp : p.chg.ok S K p.file) : FsGood (K + 1) (S.changes p) := by
  obtain ⟨h1, h2⟩ := h.fn.chg h.inv hp
  have hsz := h.inv.names.size
  have hm := h.inv.mono (Nat.le_succ K)
  refine ⟨⟨hm.quota, hm.last, hm.ord, hm.rng, hm.many, hm.sy, ?_, ⟨hm.dur.size, hm.dur.short, hm.dur.has, hm.dur.most⟩, ?_, ?_, hm.size, hm.steps, hm.armed⟩, h1.dir, h.dd, ?_⟩
  · exact ⟨by show Maps.size (p.chg.on S.names) ≤ _; omega, fun _ hn => h1.dir.short hn, fun s hn => (S.idx_iff _).2 (h1.has s hn), fun s => Nat.le_trans (h1.most s) (Nat.le_succ K)⟩
  · show (S.pend ++ [p]).length ≤ _
    have := h.inv.pends
    simp
    omega
  · intro q hq
    rcases List.mem_append.1 hq with hq | hq
    · exact hm.pend q hq
    · rw [List.mem_singleton.1 hq]
      exact hp.mono (Nat.le_succ K) fun _ h => h
  · show Maps.size S.dur + (S.pend ++ [p]).length ≤ _
    have := h.room
    simp
    omega
/-- a file's bytes turned -/
theorem FsGood.refiled {K K' : Nat} {S : FsSt} (h : FsGood K S) (hK : K ≤ K') {i : Nat} {c : FileC} (hc : c.sy ≤ c.d.length ∧ c.d.length ≤ K') : FsGood K' { S with files := S.files.set i ((S.fileD i).1, c) } := by
  have hm := (h.mono hK).inv
  by_cases hi : i < S.files.length
  · have hf : (S.files.set i ((S.fileD i).1, c)).map (·.1) = S.files.map (·.1) := by
      rw [List.map_set]
      refine List.ext_getElem? fun j => ?_
      rw [List.getElem?_set]
      split
      · rename_i e
        subst e
        have : i < (S.files.map (·.1)).length := by simpa using hi
        rw [if_pos this]
        rw [List.getElem?_map, getD_some hi (0, ⟨[], 0⟩)]
        rfl
      · rfl
    have hs : ∀ k, k ∈ S.files.map (·.1) → k ∈ (S.files.set i ((S.fileD i).1, c)).map (·.1) := fun k hk => by rw [hf]; exact hk
    refine ⟨⟨hm.quota, hm.last, by show ((S.files.set i ((S.fileD i).1, c)).map (·.1)).Pairwise _; rw [hf]; exact hm.ord, ?_, ?_, ?_, hm.names.mono (Nat.le_refl _) hs, hm.dur.mono (Nat.le_refl _) hs, hm.pends, fun p hp => (hm.pend p hp).mono (Nat.le_refl _) hs, hm.size, hm.steps, hm.armed⟩, h.dn, h.dd, Nat.le_trans h.room hK⟩
    · intro e he
      have h1 : e.1 ∈ S.files.map (·.1) := by rw [← hf]; exact List.mem_map_of_mem he
      obtain ⟨e', he', h2⟩ := List.mem_map.1 h1
      rw [← h2]
      exact hm.rng e' he'
    · show (S.files.set i _).length ≤ _
      rw [List.length_set]
      exact hm.many
    · intro e he
      rcases List.mem_or_eq_of_mem_set he with he | rfl
      · exact hm.sy e he
      · exact hc
  · have : S.files.set i ((S.fileD i).1, c) = S.files := List.set_eq_of_length_le (by omega)
    rw [this]
    exact h.mono hK
/-- the size turned -/
theorem FsGood.sized {K K' : Nat} {S : FsSt} (h : FsGood K S) (hK : K ≤ K') {z : Int} (hz : -((K' : Int) * K') ≤ z ∧ z ≤ K' * K') : FsGood K' { S with size := z } := by
  have hm := (h.mono hK).inv
  exact ⟨⟨hm.quota, hm.last, hm.ord, hm.rng, hm.many, hm.sy, ⟨hm.names.size, hm.names.short, hm.names.has, hm.names.most⟩, ⟨hm.dur.size, hm.dur.short, hm.dur.has, hm.dur.most⟩, hm.pends, hm.pend, hz, hm.steps, hm.armed⟩, h.dn, h.dd, Nat.le_trans h.room hK⟩
/-- a file more -/
theorem FsGood.filed {K K' : Nat} {S : FsSt} (h : FsGood K S) (hK : K + 1 ≤ K') {d : List UInt8} (hd : d.length ≤ K') : FsGood K' { S with last := S.last + 1, files := S.files ++ [(S.last + 1, ⟨d, 0⟩)] } := by
  have hm := (h.mono (show K ≤ K' by omega)).inv
  have hs : ∀ k, k ∈ S.files.map (·.1) → k ∈ (S.files ++ [(S.last + 1, (⟨d, 0⟩ : FileC))]).map (·.1) := fun k hk => by rw [List.map_append]; exact List.mem_append_left _ hk
  refine ⟨⟨hm.quota, ?_, ?_, ?_, ?_, ?_, hm.names.mono (Nat.le_refl _) hs, hm.dur.mono (Nat.le_refl _) hs, hm.pends, fun p hp => (hm.pend p hp).mono (Nat.le_refl _) hs, hm.size, hm.steps, hm.armed⟩, h.dn, h.dd, Nat.le_trans h.room (by omega)⟩
  · show S.last + 1 ≤ K'
    have := h.inv.last
    omega
  · show ((S.files ++ [(S.last + 1, (⟨d, 0⟩ : FileC))]).map (·.1)).Pairwise _
    rw [List.map_append, List.pairwise_append]
    refine ⟨hm.ord, by simp, fun a ha b hb => ?_⟩
    obtain ⟨e, he, rfl⟩ := List.mem_map.1 ha
    simp at hb
    subst hb
    have := h.inv.rng e he
    omega
  · intro e he
    rcases List.mem_append.1 he with he | he
    · have := h.inv.rng e he
      exact ⟨this.1, by show e.1 ≤ S.last + 1; omega⟩
    · rw [List.mem_singleton.1 he]
      exact ⟨by show 1 ≤ S.last + 1; omega, Nat.le_refl _⟩
  · show (S.files ++ [_]).length ≤ K'
    have := h.inv.many
    simp
    omega
  · intro e he
    rcases List.mem_append.1 he with he | he
    · exact hm.sy e he
    · rw [List.mem_singleton.1 he]
      exact ⟨Nat.zero_le _, hd⟩
theorem good_write1 {K K' : Nat} {S : FsSt} (h : FsGood K S) {name : ByteArray} {d : List UInt8} {n : Int} (hn : name.size ≤ 1048576) (hz : -(K : Int) ≤ n ∧ n ≤ d.length) (hK : K + 1 + d.length ≤ K') : FsGood (K' + 1) (S.write1 name d n) := by
  have h1 := h.filed (K' := K') (d := d) (by omega) (by omega)
  have hsz := h.inv.size
  have hsq := sq_more hK
  have h2 := h1.sized (z := S.size + n) (Nat.le_refl _) (by constructor <;> omega)
  refine h2.changes _ ⟨hn, ?_, rfl, ?_⟩
  · have := h.inv.last
    omega
  · refine (FsSt.idx_iff _ _).2 ?_
    show S.last + 1 ∈ (S.files ++ [(S.last + 1, (⟨d, 0⟩ : FileC))]).map (·.1)
    simp
theorem good_append1 {K K' : Nat} {S : FsSt} (h : FsGood K S) {i : Nat} (hi : i < S.files.length) {d : List UInt8} (hK : K + 1 + d.length ≤ K') : FsGood K' (S.append1 i d) := by
  have h0 := h.inv.sy (S.fileD i) (by rw [FsSt.fileD, List.getD_eq_getElem?_getD, List.getElem?_eq_getElem hi]; exact List.getElem_mem hi)
  have h1 := h.refiled (K' := K') (by omega) (i := i) (c := { (S.fileD i).2 with d := (S.fileD i).2.d ++ d }) (by
    simp only [List.length_append]
    omega)
  have hsz := h.inv.size
  have hsq := sq_more hK
  exact h1.sized (z := S.size + d.length) (Nat.le_refl _) (by constructor <;> omega)
theorem good_sync1 {K : Nat} {S : FsSt} (h : FsGood K S) (i : Nat) : FsGood K (S.sync1 i) := by
  by_cases hi : i < S.files.length
  · have h0 := h.inv.sy (S.fileD i) (by rw [FsSt.fileD, List.getD_eq_getElem?_getD, List.getElem?_eq_getElem hi]; exact List.getElem_mem hi)
    exact h.refiled (Nat.le_refl _) ⟨Nat.le_refl _, h0.2⟩
  · unfold FsSt.sync1
    rw [List.set_eq_of_length_le (by omega)]
    exact h
theorem good_lose {K K' : Nat} {S : FsSt} (h : FsGood K S) (s : ByteArray) (hK : K + 1 ≤ K') : FsGood K' (S.lose s) := by
  unfold FsSt.lose
  split
  · exact h.mono (by omega)
  · rename_i i _
    have h1 := h.inv.lenAt i
    have hsz := h.inv.size
    have hsq := sq_more (d := 0) hK
    exact h.sized (by omega) (by constructor <;> omega)
theorem lose_files (S : FsSt) (a : ByteArray) : (S.lose a).files = S.files := by
  unfold FsSt.lose
  split <;> rfl
theorem good_rename1 {K K' : Nat} {S : FsSt} (h : FsGood K S) {a b : ByteArray} (ha : a.size ≤ 1048576) (hb : b.size ≤ 1048576) (hh : S.has a = true) (hK : K + 1 ≤ K') : FsGood (K' + 1) (S.rename1 a b) := by
  unfold FsSt.rename1
  split
  · exact h.mono (by omega)
  · have hidx : ∃ i, S.idx (nget S.names a) = some i := Option.isSome_iff_exists.1 hh
    refine (good_lose h b hK).changes _ ⟨ha, hb, ?_, rfl, ?_⟩
    · have := h.inv.names.most a
      omega
    · refine (FsSt.idx_iff _ _).2 ?_
      rw [lose_files]
      exact (FsSt.idx_iff _ _).1 hidx
theorem good_remove1 {K K' : Nat} {S : FsSt} (h : FsGood K S) {a : ByteArray} (ha : a.size ≤ 1048576) (hK : K + 1 ≤ K') : FsGood (K' + 1) (S.remove1 a) := (good_lose h a hK).changes _ ⟨ha, rfl⟩
/-! ### settled -/
theorem vals_mem {D : Dm} (h : DirOk D) {s : ByteArray} (hn : nget D s ≠ 0) : nget D s ∈ vals D :=
  (vals_has h.canon h.nat _).2 ⟨sk s, (h.has_iff s).2 hn, h.nat.at_ _⟩
theorem good_settle {K K' : Nat} {S : FsSt} (h : FsGood K S) (n : Nat) (hn : n ≤ S.pend.length) (hK : K ≤ K') (hr : Maps.size S.dur + n ≤ K') : FsGood K' (S.settle n) := by
  obtain ⟨h1, h2⟩ := h.durs n
  have hm := (h.mono hK).inv
  have htl : (S.pend.take n).length = n := by rw [List.length_take]; omega
  obtain ⟨D, hD⟩ : ∃ D, D = durOf S.dur (S.pend.take n) := ⟨_, rfl⟩
  obtain ⟨q, hq⟩ : ∃ q : Nat → Bool, q = (usedL S.names D (S.pend.drop n)).contains := ⟨_, rfl⟩
  have hS : S.settle n = { S with dur := D, pend := S.pend.drop n, files := S.files.filter fun e => q e.1 } := by rw [hq, hD]; rfl
  rw [hS]
  rw [← hD] at h1 h2
  have hsub : ∀ k, k ∈ S.files.map (·.1) → q k = true → k ∈ (S.files.filter fun e => q e.1).map (·.1) := fun k hk hqk => by
    obtain ⟨e, he, rfl⟩ := List.mem_map.1 hk
    exact List.mem_map_of_mem (List.mem_filter.2 ⟨he, hqk⟩)
  have hqn : ∀ s, nget S.names s ≠ 0 → q (nget S.names s) = true := fun s hs => by
    rw [hq, List.contains_iff_mem]
    unfold usedL
    exact List.mem_append_left _ (List.mem_append_left _ (vals_mem h.dn hs))
  have hqd : ∀ s, nget D s ≠ 0 → q (nget D s) = true := fun s hs => by
    rw [hq, List.contains_iff_mem]
    unfold usedL
    exact List.mem_append_left _ (List.mem_append_right _ (vals_mem h1.dir hs))
  have hqp : ∀ p ∈ S.pend.drop n, q p.file = true := fun p hp => by
    rw [hq, List.contains_iff_mem]
    unfold usedL
    exact List.mem_append_right _ (List.mem_map_of_mem hp)
  refine ⟨⟨hm.quota, hm.last, ?_, fun e he => hm.rng e (List.mem_filter.1 he).1, Nat.le_trans (List.length_filter_le _ _) hm.many, fun e he => hm.sy e (List.mem_filter.1 he).1, ?_, ?_, ?_, ?_, hm.size, hm.steps, hm.armed⟩, h.dn, h1.dir, ?_⟩
  · exact hm.ord.sublist ((List.filter_sublist).map _)
  · exact ⟨hm.names.size, hm.names.short, fun s hs => (FsSt.idx_iff _ _).2 (hsub _ (h.fn.has s hs) (hqn s hs)), hm.names.most⟩
  · exact ⟨by show Maps.size D ≤ K'; omega, fun _ hs => h1.dir.short hs, fun s hs => (FsSt.idx_iff _ _).2 (hsub _ (h1.has s hs) (hqd s hs)), fun s => Nat.le_trans (h1.most s) hK⟩
  · show (S.pend.drop n).length ≤ K'
    have := hm.pends
    rw [List.length_drop]
    omega
  · intro p hp
    have hpo := hm.pend p (List.mem_of_mem_drop hp)
    have hqf := hqp p hp
    cases hc : p.chg with
    | put s k =>
      rw [hc] at hpo
      refine ⟨hpo.1, hpo.2.1, hpo.2.2.1, (FsSt.idx_iff _ _).2 (hsub _ ((S.idx_iff _).1 hpo.2.2.2) ?_)⟩
      rw [← hpo.2.2.1]
      exact hqf
    | move s t k =>
      rw [hc] at hpo
      refine ⟨hpo.1, hpo.2.1, hpo.2.2.1, hpo.2.2.2.1, (FsSt.idx_iff _ _).2 (hsub _ ((S.idx_iff _).1 hpo.2.2.2.2) ?_)⟩
      rw [← hpo.2.2.2.1]
      exact hqf
    | del s => rw [hc] at hpo; exact hpo
  · show Maps.size D + (S.pend.drop n).length ≤ K'
    have := h.room
    rw [List.length_drop]
    omega
end Go.Proofs.YtaolddgnannojaaGreatDoor
