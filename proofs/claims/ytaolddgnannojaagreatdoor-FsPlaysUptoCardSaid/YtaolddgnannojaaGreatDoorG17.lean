/-
  Plain: the reference's names (rising rows of a name and a node) beside a directory; its state.
  What Crash does to the memory of a file system: the names' map another one; fewer pending changes; files cut.
  slices.Sort of texts.
-/
import Derived.Test.YtaolddgnannojaaGreatDoorG16
import Derived.Test.YtaolddgnannojaaGreatDoorG1
import Derived.Test.YtaolddgnannojaaGreatDoorFsValid
import Derived.Test.YtaolddgnannojaaGreatDoorIter
import Derived.Sort.OwnSorted
namespace Go.Proofs.YtaolddgnannojaaGreatDoor
open Go.RowKit Go.Maps

/-! ### texts in order -/
def ltS (a b : ByteArray) : Prop := a.data.toList < b.data.toList
instance (a b : ByteArray) : Decidable (ltS a b) := inferInstanceAs (Decidable (a.data.toList < b.data.toList))
theorem less_eq : ∀ (x y : List UInt8), Op.bytesLess x y = decide (x < y)
  | [], [] => by simp [Op.bytesLess]
  | _ :: _, [] => by simp [Op.bytesLess]
  | [], _ :: _ => by simp [Op.bytesLess]
  | a :: x, b :: y => by
    rw [Op.bytesLess, less_eq x y]
    by_cases h : a = b <;> simp [List.cons_lt_cons_iff, h]
theorem less_str (a b : ByteArray) : Op.bytesLess a.toList b.toList = decide (ltS a b) := by
  rw [less_eq, Lib.toList_data, Lib.toList_data]
  rfl
theorem ltS_trans {a b c : ByteArray} (h : ltS a b) (k : ltS b c) : ltS a c := List.lt_trans h k
theorem ltS_irrefl (a : ByteArray) : ¬ ltS a a := List.lt_irrefl _
theorem ltS_total {a b : ByteArray} (h : ¬ ltS a b) (k : a ≠ b) : ltS b a := by
  unfold ltS at *
  rcases List.le_total a.data.toList b.data.toList with h1 | h1
  · exact absurd (List.le_antisymm h1 (List.not_lt.1 h)) fun e => k (by
      cases a; cases b
      simp only [ByteArray.mk.injEq]
      exact Array.toList_inj.1 e)
  · exact List.not_le.1 fun h2 => k (by
      have e := List.le_antisymm h2 h1
      cases a; cases b
      simp only [ByteArray.mk.injEq]
      exact Array.toList_inj.1 e)
theorem rising_eq : ∀ {l m : List ByteArray}, l.Pairwise ltS → m.Pairwise ltS → (∀ s, s ∈ l ↔ s ∈ m) → l = m
  | [], [], _, _, _ => rfl
  | [], b :: m, _, _, h => by have := (h b).2 (by simp); simp at this
  | a :: l, [], _, _, h => by have := (h a).1 (by simp); simp at this
  | a :: l, b :: m, hl, hm, h => by
    obtain ⟨l1, l2⟩ := List.pairwise_cons.1 hl
    obtain ⟨m1, m2⟩ := List.pairwise_cons.1 hm
    have hab : a = b := by
      rcases List.mem_cons.1 ((h a).1 (by simp)) with e | e
      · exact e
      · rcases List.mem_cons.1 ((h b).2 (by simp)) with e2 | e2
        · exact e2.symm
        · exact absurd (ltS_trans (l1 b e2) (m1 a e)) (ltS_irrefl a)
    subst hab
    rw [rising_eq l2 m2 fun s => ?_]
    constructor
    · intro hs
      rcases List.mem_cons.1 ((h s).1 (by simp [hs])) with e | e
      · rw [e] at hs
        exact absurd (l1 a hs) (ltS_irrefl a)
      · exact e
    · intro hs
      rcases List.mem_cons.1 ((h s).2 (by simp [hs])) with e | e
      · rw [e] at hs
        exact absurd (m1 a hs) (ltS_irrefl a)
      · exact e
theorem strKeys_nodup {D : Dm} (h : DirOk D) : (strKeys D).Nodup := by
  obtain ⟨es, rfl, h1, h2⟩ := h.canon
  show (es.map fun p => strOf p.1).Nodup
  refine List.pairwise_map.2 ((apart_of_rising h1).imp_of_mem fun {p q} hp hq hne e => hne ?_)
  have key : ∀ p ∈ es, ∃ s : ByteArray, p.1 = sk s := fun p hp => by
    obtain ⟨s, hs, _⟩ := h.str p.1 (by rw [has_eq, List.any_eq_true]; exact ⟨p, hp, WideAt.sameKey_self (h2 p hp)⟩)
    exact ⟨s, hs⟩
  obtain ⟨a, ha⟩ := key p hp
  obtain ⟨b, hb⟩ := key q hq
  rw [ha, hb] at e ⊢
  exact congrArg Lit.string e
theorem sort_rising {l : List (List UInt8)} (hn : l.Nodup) : ((l.mergeSort leB).map mkS).Pairwise ltS := by
  have tr : ∀ a b c : List UInt8, leB a b = true → leB b c = true → leB a c = true := fun a b c h1 h2 => by simp only [leB, decide_eq_true_eq] at *; exact List.le_trans h1 h2
  have to : ∀ a b : List UInt8, (leB a b || leB b a) = true := fun a b => by simp only [leB, Bool.or_eq_true, decide_eq_true_eq]; exact List.le_total a b
  have hs := List.pairwise_mergeSort tr to l
  have hnd : (l.mergeSort leB).Nodup := (List.mergeSort_perm l leB).nodup_iff.2 hn
  refine List.pairwise_map.2 ?_
  have both := hs.and hnd
  refine both.imp fun {a b} hab => ?_
  obtain ⟨h1, h2⟩ := hab
  simp only [leB, decide_eq_true_eq] at h1
  show (mkS a).data.toList < (mkS b).data.toList
  have ea : (mkS a).data.toList = a := by simp [mkS]
  have eb : (mkS b).data.toList = b := by simp [mkS]
  rw [ea, eb]
  exact List.not_le.1 fun h3 => h2 (List.le_antisymm h1 h3)
theorem keysOf_rising {D : Dm} (h : DirOk D) : (keysOf D).Pairwise ltS := sort_rising (strKeys_nodup h)
/-! ### rows of names -/
abbrev NRow := ByteArray × Nat
def rat (l : List NRow) (s : ByteArray) : Option Nat := (l.find? fun p => decide (p.1 = s)).map (·.2)
def without (l : List NRow) (s : ByteArray) : List NRow := l.filter fun p => decide (p.1 ≠ s)
def withN (l : List NRow) (s : ByteArray) (n : Nat) : List NRow := (without l s).takeWhile (fun p => decide (ltS p.1 s)) ++ [(s, n)] ++ (without l s).dropWhile (fun p => decide (ltS p.1 s))
structure RChg where
  dir : ByteArray
  off : ByteArray
  on : ByteArray
  no : Nat
def does (l : List NRow) (c : RChg) : List NRow :=
  let m := if c.off.size = 0 then l else without l c.off
  if c.on.size = 0 then m else withN m c.on c.no
/-- a row of names is a directory's -/
structure Rows (D : Dm) (L : List NRow) : Prop where
  ord : L.Pairwise fun p q => ltS p.1 q.1
  mem : ∀ s n, (s, n) ∈ L ↔ nget D s = n + 1
theorem Rows.rat {D : Dm} {L : List NRow} (h : Rows D L) (s : ByteArray) : rat L s = if nget D s = 0 then none else some (nget D s - 1) := by
  unfold Go.Proofs.YtaolddgnannojaaGreatDoor.rat
  cases hf : L.find? fun p => decide (p.1 = s) with
  | none =>
    rw [List.find?_eq_none] at hf
    by_cases h0 : nget D s = 0
    · rw [if_pos h0]; rfl
    · exfalso
      have := hf (s, nget D s - 1) ((h.mem _ _).2 (by omega))
      simp at this
  | some p =>
    have h1 := List.mem_of_find?_eq_some hf
    have h2 := List.find?_some hf
    simp only [decide_eq_true_eq] at h2
    have h3 := (h.mem p.1 p.2).1 h1
    rw [h2] at h3
    rw [if_neg (by omega), h3]
    simp
theorem Rows.del {D : Dm} {L : List NRow} (h : Rows D L) (s : ByteArray) : Rows (D.del (sk s)) (without L s) := by
  refine ⟨h.ord.filter _, fun t n => ?_⟩
  unfold without
  rw [List.mem_filter, h.mem, nget_del]
  simp only [decide_eq_true_eq]
  by_cases e : t = s
  · subst e
    simp
  · rw [if_neg e]
    simp [e]
theorem tw_lt (s : ByteArray) : ∀ (l : List NRow), ∀ p ∈ l.takeWhile (fun p => decide (ltS p.1 s)), ltS p.1 s
  | [], p, hp => by simp at hp
  | x :: l, p, hp => by
    by_cases hx : ltS x.1 s
    · rw [List.takeWhile_cons_of_pos (by simpa using hx)] at hp
      rcases List.mem_cons.1 hp with e | e
      · rw [e]; exact hx
      · exact tw_lt s l p e
    · rw [List.takeWhile_cons_of_neg (by simpa using hx)] at hp
      simp at hp
theorem dw_gt {s : ByteArray} : ∀ {l : List NRow}, l.Pairwise (fun p q => ltS p.1 q.1) → (∀ p ∈ l, p.1 ≠ s) → ∀ p ∈ l.dropWhile (fun p => decide (ltS p.1 s)), ltS s p.1
  | [], _, _, p, hp => by simp at hp
  | x :: l, hl, hn, p, hp => by
    obtain ⟨l1, l2⟩ := List.pairwise_cons.1 hl
    by_cases hx : ltS x.1 s
    · rw [List.dropWhile_cons_of_pos (by simpa using hx)] at hp
      exact dw_gt l2 (fun q hq => hn q (by simp [hq])) p hp
    · rw [List.dropWhile_cons_of_neg (by simpa using hx)] at hp
      have hxs : ltS s x.1 := ltS_total hx (hn x (by simp))
      rcases List.mem_cons.1 hp with e | e
      · rw [e]; exact hxs
      · exact ltS_trans hxs (l1 p e)
theorem Rows.put {D : Dm} {L : List NRow} (h : Rows D L) (hD : IsMap D) (s : ByteArray) {k : Nat} (hk : k ≠ 0) : Rows (D.put (sk s) (nval k)) (withN L s (k - 1)) := by
  have hw := h.del s
  have hns : ∀ p ∈ without L s, p.1 ≠ s := fun p hp => by
    unfold without at hp
    simpa using (List.mem_filter.1 hp).2
  have hcut : (without L s).takeWhile (fun p => decide (ltS p.1 s)) ++ (without L s).dropWhile (fun p => decide (ltS p.1 s)) = without L s := List.takeWhile_append_dropWhile
  have h1 := tw_lt s (without L s)
  have h2 := dw_gt hw.ord hns
  refine ⟨?_, fun t n => ?_⟩
  · unfold withN
    have hp := hw.ord
    rw [← hcut] at hp
    obtain ⟨p1, p2, p3⟩ := List.pairwise_append.1 hp
    rw [List.append_assoc, List.pairwise_append]
    refine ⟨p1, ?_, fun a ha b hb => ?_⟩
    · rw [List.singleton_append, List.pairwise_cons]
      exact ⟨fun q hq => h2 q hq, p2⟩
    · rw [List.singleton_append, List.mem_cons] at hb
      rcases hb with rfl | hb
      · exact h1 a ha
      · exact p3 a ha b hb
  · have hm : (t, n) ∈ withN L s (k - 1) ↔ (t, n) = (s, k - 1) ∨ (t, n) ∈ without L s := by
      unfold withN
      conv => rhs; rw [← hcut]
      simp only [List.mem_append, List.mem_singleton]
      constructor
      · rintro ((h | h) | h)
        · exact .inr (.inl h)
        · exact .inl h
        · exact .inr (.inr h)
      · rintro (h | h | h)
        · exact .inl (.inr h)
        · exact .inl (.inl h)
        · exact .inr h
    rw [hm, hw.mem, nget_put hD, nget_del]
    simp only [Prod.mk.injEq]
    by_cases e : t = s
    · subst e
      simp
      omega
    · rw [if_neg e, if_neg e]
      simp [e]
theorem Rows.made : Rows (.map []) [] := ⟨List.Pairwise.nil, fun s n => by
  have : nget (.map []) s = 0 := rfl
  rw [this]
  simp⟩
theorem Rows.keys {D : Dm} {L : List NRow} (h : Rows D L) (hD : DirOk D) : L.map (·.1) = keysOf D := by
  refine rising_eq (List.pairwise_map.2 h.ord) (keysOf_rising hD) fun s => ?_
  rw [mem_keysOf hD, List.mem_map]
  constructor
  · rintro ⟨p, hp, rfl⟩
    have := (h.mem p.1 p.2).1 hp
    omega
  · intro hn
    exact ⟨(s, nget D s - 1), (h.mem _ _).2 (by omega), rfl⟩
theorem Rows.len {D : Dm} {L : List NRow} (h : Rows D L) (hD : DirOk D) : L.length = Maps.size D := by
  rw [← keysOf_len hD, ← h.keys hD, List.length_map]
/-- the reference's change -/
def rch (p : Pend) : RChg := match p.chg with
  | .put n k => ⟨p.dir, ⟨#[]⟩, n, k - 1⟩
  | .move a b k => ⟨p.dir, a, b, k - 1⟩
  | .del n => ⟨p.dir, n, ⟨#[]⟩, 0⟩
/-- a change that names something -/
def Chg.named : Chg → Prop
  | .put n k => n.size ≠ 0 ∧ k ≠ 0
  | .move a b k => a.size ≠ 0 ∧ b.size ≠ 0 ∧ k ≠ 0
  | .del n => n.size ≠ 0
theorem Rows.chg {D : Dm} {L : List NRow} (h : Rows D L) (hD : DirOk D) {p : Pend} (hn : p.chg.named) : Rows (p.chg.on D) (does L (rch p)) := by
  obtain ⟨dir, file, c⟩ := p
  cases c with
  | put n k =>
    obtain ⟨h1, h2⟩ := hn
    show Rows (D.put (sk n) (nval k)) (does L ⟨dir, ⟨#[]⟩, n, k - 1⟩)
    unfold does
    simp only
    rw [if_pos (show (⟨#[]⟩ : ByteArray).size = 0 from rfl), if_neg h1]
    exact h.put hD.tidy.isMap n h2
  | move a b k =>
    obtain ⟨h1, h2, h3⟩ := hn
    show Rows ((D.del (sk a)).put (sk b) (nval k)) (does L ⟨dir, a, b, k - 1⟩)
    unfold does
    simp only
    rw [if_neg h1, if_neg h2]
    exact (h.del a).put (hD.del a).tidy.isMap b h3
  | del n =>
    show Rows (D.del (sk n)) (does L ⟨dir, n, ⟨#[]⟩, 0⟩)
    unfold does
    simp only
    rw [if_neg hn, if_pos (show (⟨#[]⟩ : ByteArray).size = 0 from rfl)]
    exact h.del n
end Go.Proofs.YtaolddgnannojaaGreatDoor
namespace Go.Proofs.YtaolddgnannojaaGreatDoor
open Go.RowKit Go.Maps

attribute [local go_sem] lt1 lt2 lt3 lt4 lt5 lt6

theorem FsAt.not_fb {w : World} {M : FsMem} {S : FsSt} (h : FsAt w M S) {k : Nat} (hk : k ∈ M.fm :: M.nm :: M.dm :: (M.pv.ownBlock.toList ++ M.fl.flatMap fun f => f.1 :: f.2.ownBlock.toList)) : k ∉ [M.fb] := fun hh => by
  have h5 := h.nodup
  unfold FsMem.own at h5
  rw [List.mem_singleton.1 hh] at hk
  exact (List.nodup_cons.1 h5).1 hk
theorem FsAt.renamed {w w' : World} {M : FsMem} {S S' : FsSt} {b : Nat} (h : FsAt w M S) (hf : Fr [M.fb] w w')
    (hb : w'.heap[M.fb]? = some (.cells #[.int .i64 (S'.quota : Nat), .map (some M.fm), .int .i64 (S'.last : Nat), .map (some b), .map (some M.dm), .int .i64 S'.size, M.pv, .int .i64 (S'.steps : Nat), .int .i64 (S'.armed : Nat), .bool S'.down] 49 (0, 0)))
    (hnew : w.heap.size ≤ b) (hn : OwnN w' b S'.names) (hN : Nats S'.names) (h2 : S'.dur = S.dur) (h3 : S'.files = S.files) (h4 : S'.pend = S.pend) : FsAt w' { M with nm := b } S' ∧ Gr M w { M with nm := b } w' := by
  have hfm : Frm [M.fb] w w' := ⟨hf, fun k hk _ => h.mays k (by rw [List.mem_singleton.1 hk]; simp [FsMem.own])⟩
  have hd := h.dur
  have hD := h.natD
  have hfl := h.files
  have he := h.each
  obtain ⟨cs, p1, p2⟩ := h.pend
  rw [← h2] at hd hD
  rw [← h3] at hfl he
  rw [← h4] at p1 p2
  refine ⟨⟨hb, hn, map_kept hd hf (h.not_fb (by simp)), hN, hD, map_kept hfl hf (h.not_fb (by simp)), all2_kept he fun e f hm hfa => hfa.kept hf (h.not_fb ?_) fun b hb => h.not_fb ?_, ⟨cs, p1.mono fun _ _ h => h.kept hfm, row_kept p2 hf fun b hb => h.not_fb (by simp [hb])⟩, ?_⟩, ?_⟩
  · simp only [List.mem_cons, List.mem_append]
    exact .inr (.inr (.inr (.inr (List.mem_flatMap.2 ⟨f, hm, by simp⟩))))
  · simp only [List.mem_cons, List.mem_append]
    exact .inr (.inr (.inr (.inr (List.mem_flatMap.2 ⟨f, hm, by simp [hb]⟩))))
  · have hnd := h.nodup
    have hlt := h.lt
    have hown : ∀ x, ({ M with nm := x } : FsMem).own = [M.fb, M.fm] ++ [x] ++ (M.dm :: (M.pv.ownBlock.toList ++ M.fl.flatMap fun f => f.1 :: f.2.ownBlock.toList)) := fun x => by simp [FsMem.own]
    have hown0 := hown M.nm
    change M.own = _ at hown0
    rw [hown0] at hnd hlt
    rw [hown]
    exact nodup_part hnd hlt (.inr ⟨by simp, fun k hk => by rw [List.mem_singleton.1 hk]; exact hnew⟩)
  · refine ⟨hf.more fun k hk => by rw [List.mem_singleton.1 hk]; simp [FsMem.own], fun k hk => ?_, rfl⟩
    simp only [FsMem.own, List.mem_cons, List.mem_append] at hk ⊢
    rcases hk with h6 | h6 | h6 | h6 | h6 | h6
    · exact .inl (.inl h6)
    · exact .inl (.inr (.inl h6))
    · exact .inr (by omega)
    · exact .inl (.inr (.inr (.inr (.inl h6))))
    · exact .inl (.inr (.inr (.inr (.inr (.inl h6)))))
    · exact .inl (.inr (.inr (.inr (.inr (.inr h6)))))
theorem row_front {w : World} {A : Option Addr} {n c m : Nat} {xs : List Value} (h : w.ownsRow 0 63 3 (.slice A n c) n xs) (hm : m ≤ n) : w.ownsRow 0 63 3 (.slice A m c) m (xs.take (m * 3)) := by
  have hl := h.1
  refine ⟨by rw [List.length_take, hl]; have := Nat.mul_le_mul_right 3 hm; omega, ?_⟩
  rcases h.2 with ⟨hn, hx⟩ | ⟨g, cap, cur, hv, hb, hg, hnc, hcm, hsz, htk⟩
  · simp only [Value.slice.injEq] at hn
    obtain ⟨rfl, rfl, rfl⟩ := hn
    have : m = 0 := by omega
    subst this
    exact .inl ⟨rfl, by simp⟩
  · simp only [Value.slice.injEq] at hv
    obtain ⟨rfl, _, rfl⟩ := hv
    exact .inr ⟨g, c, cur, rfl, hb, hg, by omega, hcm, hsz, by rw [← htk, List.take_take, Nat.min_eq_left (Nat.mul_le_mul_right 3 hm)]⟩
theorem flat_take {m : Nat} : ∀ (k : Nat) {cs : List (List Value)}, (∀ c ∈ cs, c.length = m) → k ≤ cs.length → (cs.take k).flatten = cs.flatten.take (k * m)
  | 0, cs, _, _ => by simp
  | k + 1, [], _, h => by simp at h
  | k + 1, c :: cs, h, hk => by
    have hc := h c (by simp)
    rw [List.take_succ_cons, List.flatten_cons, flat_take k (fun d hd => h d (by simp [hd])) (by simpa using hk), List.flatten_cons, List.take_append]
    have e : (k + 1) * m - c.length = k * m := by rw [hc, Nat.succ_mul]; omega
    have e2 : c.take ((k + 1) * m) = c := List.take_of_length_le (by rw [hc, Nat.succ_mul]; omega)
    rw [e, e2]
theorem All2.take {α β : Type} {Q : α → β → Prop} : ∀ (k : Nat) {l : List α} {m : List β}, All2 Q l m → All2 Q (l.take k) (m.take k)
  | 0, _, _, _ => by simp [All2]
  | k + 1, [], [], _ => by simp [All2]
  | k + 1, _ :: _, _ :: _, h => by simpa using ⟨h.1, All2.take k h.2⟩
  | _ + 1, [], _ :: _, h => h.elim
  | _ + 1, _ :: _, [], h => h.elim
/-- the first pending changes alone -/
theorem FsAt.fronted {w w' : World} {M : FsMem} {S : FsSt} {A : Option Addr} {c m : Nat} (h : FsAt w M S) (hpv : M.pv = .slice A S.pend.length c) (hm : m ≤ S.pend.length)
    (hw : w' = w.setCell ⟨M.fb, 6, none⟩ (.slice A m c)) : FsAt w' { M with pv := .slice A m c } { S with pend := S.pend.take m } ∧ Gr M w { M with pv := .slice A m c } w' := by
  have hblk := heap_setCell_at h.blk 6 (.slice A m c)
  have hfr : Fr [M.fb] w w' := by rw [hw]; exact Fr.setCell _ _ _ _ (by simp)
  have hfm : Frm [M.fb] w w' := ⟨hfr, fun k hk _ => h.mays k (by rw [List.mem_singleton.1 hk]; simp [FsMem.own])⟩
  obtain ⟨cs, p1, p2⟩ := h.pend
  have h3 : ∀ c ∈ cs, c.length = 3 := p1.left_all fun a b hab => by obtain ⟨v, rfl, _⟩ := hab; rfl
  have hcl := p1.length
  refine h.pended (S' := { S with pend := S.pend.take m }) (hfr.more fun k hk => by rw [List.mem_singleton.1 hk]; simp) (by rw [hw]; exact hblk) ⟨cs.take m, (p1.take m).mono fun _ _ h => h.kept hfm, ?_⟩ (.inl (by rw [hpv]; cases A <;> rfl)) rfl rfl rfl
  rw [flat_take m h3 (by omega)]
  show World.ownsRow _ _ _ _ _ (S.pend.take m).length _
  rw [List.length_take, Nat.min_eq_left hm]
  rw [hpv] at p2
  exact row_kept (row_front p2 hm) hfr fun b hb => h.not_fb (by
    have e : (Value.slice A S.pend.length c).ownBlock = (Value.slice A m c).ownBlock := (by cases A <;> rfl)
    rw [hpv, e, hb]
    simp)
/-- no pending changes -/
theorem FsAt.emptied {w w' : World} {M : FsMem} {S : FsSt} (h : FsAt w M S) (hw : w' = w.setCell ⟨M.fb, 6, none⟩ (.slice none 0 0)) :
    FsAt w' { M with pv := .slice none 0 0 } { S with pend := [] } ∧ Gr M w { M with pv := .slice none 0 0 } w' := by
  have hblk := heap_setCell_at h.blk 6 (.slice none 0 0)
  have hfr : Fr [M.fb] w w' := by rw [hw]; exact Fr.setCell _ _ _ _ (by simp)
  exact h.pended (S' := { S with pend := [] }) (hfr.more fun k hk => by rw [List.mem_singleton.1 hk]; simp) (by rw [hw]; exact hblk) ⟨[], trivial, World.ownsRow_nil _ _ _ _⟩ (.inr (by simp [Value.ownBlock])) rfl rfl rfl
/-! ### files cut one by one -/
def mixF (left : Lit → Bool) (m : Nat) (fs : List (Nat × FileC)) : List (Nat × FileC) := fs.map fun e => if left (ik e.1) then e else (e.1, cutF m e.2)
theorem mixF_start (m : Nat) (fs : List (Nat × FileC)) (fl : List (Nat × Value)) (hl : fs.length = fl.length) : mixF (has (fD fs fl)) m fs = fs := by
  unfold mixF
  refine (List.map_congr_left (g := id) fun e he => ?_).trans (List.map_id fs)
  have : has (fD fs fl) (ik e.1) = true := by
    unfold fD
    rw [has_eq, List.any_map]
    obtain ⟨i, hi⟩ := List.getElem?_of_mem he
    have hi2 := (List.getElem?_eq_some_iff.1 hi).1
    refine List.any_eq_true.2 ⟨(e, fl[i]'(by omega)), ?_, ?_⟩
    · refine List.mem_of_getElem? (i := i) ?_
      rw [List.getElem?_zip_eq_some]
      exact ⟨hi, List.getElem?_eq_getElem _⟩
    · show (ik e.1).sameKey (ik e.1) = true
      rw [ik_same]
      simp
  rw [this]
  rfl
theorem mixF_end {left : Lit → Bool} (m : Nat) (fs : List (Nat × FileC)) (hl : ∀ kl, left kl = false) : mixF left m fs = fs.map fun e => (e.1, cutF m e.2) := by
  unfold mixF
  refine List.map_congr_left fun e _ => ?_
  rw [hl]
  rfl
theorem mixF_len (left : Lit → Bool) (m : Nat) (fs : List (Nat × FileC)) : (mixF left m fs).length = fs.length := by unfold mixF; simp
theorem mixF_at {left : Lit → Bool} {m : Nat} {fs : List (Nat × FileC)} {i : Nat} {e : Nat × FileC} (hi : fs[i]? = some e) (hl : left (ik e.1) = true) : (mixF left m fs)[i]? = some e := by
  unfold mixF
  rw [List.getElem?_map, hi]
  simp [hl]
theorem mixF_step {left : Lit → Bool} {m : Nat} {fs : List (Nat × FileC)} (hd : (fs.map (·.1)).Pairwise (· < ·)) {i : Nat} {e : Nat × FileC} (hi : fs[i]? = some e) :
    mixF (fun z => left z && !z.sameKey (ik e.1)) m fs = (mixF left m fs).set i (e.1, cutF m e.2) := by
  refine List.ext_getElem? fun j => ?_
  unfold mixF
  rw [List.getElem?_set, List.getElem?_map, List.getElem?_map]
  by_cases hij : i = j
  · subst hij
    have hil := (List.getElem?_eq_some_iff.1 hi).1
    rw [if_pos rfl, if_pos (by simpa using hil), hi]
    have : (ik e.1).sameKey (ik e.1) = true := by rw [ik_same]; simp
    simp [this]
  · rw [if_neg hij]
    cases hj : fs[j]? with
    | none => rfl
    | some e' =>
      have hne : (ik e'.1).sameKey (ik e.1) = false := by
        rw [ik_same]
        have hjl := (List.getElem?_eq_some_iff.1 hj)
        have hil := (List.getElem?_eq_some_iff.1 hi)
        obtain ⟨hj1, hj2⟩ := hjl
        obtain ⟨hi1, hi2⟩ := hil
        have hp := List.pairwise_iff_getElem.1 hd
        have e1 : (fs.map (·.1))[i]'(by simpa using hi1) = e.1 := by simp [hi2]
        have e2 : (fs.map (·.1))[j]'(by simpa using hj1) = e'.1 := by simp [hj2]
        rcases Nat.lt_or_gt_of_ne hij with hlt | hlt
        · have := hp i j (by simpa using hi1) (by simpa using hj1) hlt
          simp; omega
        · have := hp j i (by simpa using hj1) (by simpa using hi1) hlt
          simp; omega
      simp [hne]
theorem mixF_fst (left : Lit → Bool) (m : Nat) (fs : List (Nat × FileC)) : (mixF left m fs).map (·.1) = fs.map (·.1) := by
  unfold mixF
  rw [List.map_map]
  refine List.map_congr_left fun e _ => ?_
  show (if left (ik e.1) then e else (e.1, cutF m e.2)).1 = e.1
  split <;> rfl
theorem fD_fst {fs fs' : List (Nat × FileC)} {fl fl' : List (Nat × Value)} (h1 : fs.map (·.1) = fs'.map (·.1)) (h2 : fl.map (·.1) = fl'.map (·.1)) : fD fs fl = fD fs' fl' := by
  have key : ∀ (fs : List (Nat × FileC)) (fl : List (Nat × Value)), fD fs fl = .map (((fs.map (·.1)).zip (fl.map (·.1))).map fun p => (ik p.1, nval p.2)) := fun fs fl => by
    unfold fD
    rw [List.zip_map, List.map_map]
    rfl
  rw [key fs fl, key fs' fl', h1, h2]
/-- the file of a key of the map -/
theorem fD_key {fs : List (Nat × FileC)} {fl : List (Nat × Value)} (hl : fs.length = fl.length) {kl : Lit} {y : Dm} (hat : ∀ zd, (fD fs fl).atKey kl zd = y) : ∃ (i : Nat) (e : Nat × FileC) (f : Nat × Value), fs[i]? = some e ∧ fl[i]? = some f ∧ kl = ik e.1 ∧ y = nval f.1 := by
  obtain ⟨n, rfl⟩ := fD_keys fs fl kl (has_true_of_atKey hat)
  have h1 := fD_at fs fl hl n
  rw [hat] at h1
  cases hf : fs.findIdx? (fun p => p.1 == n) with
  | none =>
    rw [hf] at h1
    have h2 := has_true_of_atKey hat
    unfold fD at h2
    rw [has_eq, List.any_map, List.any_eq_true] at h2
    obtain ⟨p, hp, hk⟩ := h2
    have hp1 := (List.of_mem_zip hp).1
    rw [List.findIdx?_eq_none_iff] at hf
    have := hf p.1 hp1
    change (ik p.1.1).sameKey (ik n) = true at hk
    rw [ik_same] at hk
    simp at this hk
    exact absurd hk this
  | some i =>
    rw [hf] at h1
    rw [List.findIdx?_eq_some_iff_getElem] at hf
    obtain ⟨hi, hn, _⟩ := hf
    have hi2 : i < fl.length := by omega
    refine ⟨i, fs[i], fl[i], List.getElem?_eq_getElem hi, List.getElem?_eq_getElem hi2, ?_, ?_⟩
    · simp at hn
      rw [hn]
    · rw [h1]
      simp [List.getD_eq_getElem?_getD, hi2]
/-! ### the sum over the names -/
def sumLeft (fs : List (Nat × FileC)) (left : Lit → Bool) : Dm → Nat
  | .map es => ((es.filter fun p => left p.1).map fun p => (dataNo fs (natOf p.2)).length).sum
  | _ => 0
theorem sumLeft_start (fs : List (Nat × FileC)) {D : Dm} (h : Canon D) : sumLeft fs (has D) D = sumNo fs D := by
  obtain ⟨es, rfl, _, h2⟩ := h
  unfold sumLeft sumNo vals
  have : (es.filter fun p => has (.map es) p.1) = es := List.filter_eq_self.2 fun p hp => List.any_eq_true.2 ⟨p, hp, WideAt.sameKey_self (h2 p hp)⟩
  simp only
  rw [this, List.map_map]
  rfl
theorem sumLeft_end (fs : List (Nat × FileC)) {left : Lit → Bool} (hl : ∀ kl, left kl = false) (D : Dm) : sumLeft fs left D = 0 := by
  unfold sumLeft
  split
  · rename_i es
    have : (es.filter fun p => left p.1) = [] := List.filter_eq_nil_iff.2 fun p _ => by simp [hl]
    rw [this]
    rfl
  · rfl
theorem sumLeft_step (fs : List (Nat × FileC)) {D : Dm} (h : Canon D) {left : Lit → Bool} {kl : Lit} {k : Nat} (hl : left kl = true) (hat : ∀ zd, D.atKey kl zd = nval k) :
    sumLeft fs left D = (dataNo fs k).length + sumLeft fs (fun z => left z && !z.sameKey kl) D := by
  obtain ⟨es, rfl, h1, h2⟩ := h
  have hh := has_true_of_atKey hat
  have hap := apart_of_rising h1
  obtain ⟨p, hp, hk⟩ := List.any_eq_true.1 hh
  have e1 : p.1 = kl := WideAt.sameKey_eq hk
  have e2 : p.2 = nval k := by
    have := WideAt.atKey_mem (entries := es) (k := p.1) (d := p.2) .nil (h2 p hp) hap hp
    rw [e1, hat] at this
    exact this.symm
  unfold sumLeft
  simp only
  clear hat hh h1
  induction es with
  | nil => simp at hp
  | cons q es ih =>
    obtain ⟨a1, a2⟩ := List.pairwise_cons.1 hap
    rcases List.mem_cons.1 hp with rfl | hp
    · have e3 : left p.1 = true := by rw [e1]; exact hl
      have e4 : (left p.1 && !p.1.sameKey kl) = false := by rw [hk]; simp
      have e5 : (es.filter fun p => left p.1 && !p.1.sameKey kl) = es.filter fun p => left p.1 := List.filter_congr fun q hq => by
        have : q.1.sameKey kl = false := sameKey_ne (by rw [← e1]; exact (a1 q hq).symm)
        rw [this]
        simp
      rw [List.filter_cons_of_pos (by simpa using e3), List.filter_cons_of_neg (by simpa using e4), e5, List.map_cons, List.sum_cons, e2]
      rfl
    · have hne : q.1.sameKey kl = false := sameKey_ne (by rw [← e1]; exact a1 p hp)
      have ih := ih (fun q hq => h2 q (by simp [hq])) a2 hp
      cases hq : left q.1 with
      | true =>
        rw [List.filter_cons_of_pos (by simpa using hq), List.filter_cons_of_pos (by simp [hq, hne]), List.map_cons, List.sum_cons, ih, List.map_cons, List.sum_cons]
        omega
      | false =>
        rw [List.filter_cons_of_neg (by simp [hq]), List.filter_cons_of_neg (by simp [hq]), ih]
theorem grown_setCell (w : World) (a : Addr) (u : Value) : w.grownBy (w.setCell a u) (some a.block) :=
  ⟨rfl, rfl, rfl, by simp [World.setCell], fun k _ hn => Below.heap_setCell _ _ _ _ (fun e => hn (by rw [e]))⟩
end Go.Proofs.YtaolddgnannojaaGreatDoor
namespace Go.Proofs.YtaolddgnannojaaGreatDoor
open Go.RowKit Go.Maps Go.Sort

theorem sort_nil (w : World) : Calls Tryz.prog 81 #[.slice none 0 0] w fun e w' => e = .returned (.tuple #[]) ∧ w' = w := AnyM.slices_Sort_string_none Tryz.sort81 none 0 w
/-- a row of texts sorted -/
def SortPost (w : World) (base : Nat) (v : Value) (ss : List (List UInt8)) (e : Ending) (w' : World) : Prop :=
  e = .returned (.tuple #[]) ∧ w'.ownsRow base 9 1 v ss.length ((ss.mergeSort leB).map Go.Proofs.encStr) ∧ w.grownBy w' v.ownBlock
theorem sort_texts (w : World) (base : Nat) (v : Value) (ss : List (List UInt8)) (h : w.ownsRow base 9 1 v ss.length (ss.map Go.Proofs.encStr)) (hl : ss.length ≤ 1099511627776) :
    Calls Tryz.prog 81 #[v] w (SortPost w base v ss) := by
  rcases h.2 with ⟨rfl, h2⟩ | ⟨g, cap, cur, rfl, hbase, hb, h1, h2, h3, h4⟩
  · refine (sort_nil w).mono ?_
    rintro e w' ⟨rfl, rfl⟩
    have : ss = [] := by simpa using h2
    subst this
    exact ⟨rfl, by simpa using World.ownsRow_nil w' base 9 1, ⟨rfl, rfl, rfl, Nat.le_refl _, fun _ _ _ => rfl⟩⟩
  · have hH : Holds Go.Proofs.encStr w g 0 ss.toArray := holds_of_block hb (by simpa using h4)
    refine (AnyM.slices_Sort_string Tryz.sort81 g 0 cap ss w hH (lt_of_heap hb) (by omega)).mono ?_
    rintro e w' ⟨rfl, n, os, rfl⟩
    refine ⟨rfl, ?_, grownBy_sorted _⟩
    exact ownsRow_sorted (by simp) hbase hb h1 h2 h3
end Go.Proofs.YtaolddgnannojaaGreatDoor
