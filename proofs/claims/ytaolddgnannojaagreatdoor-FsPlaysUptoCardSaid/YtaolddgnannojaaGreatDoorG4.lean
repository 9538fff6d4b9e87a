/-
  A file system in memory: what stays when one block of it has turned.
  The changes of names: what their functions do to a map.
-/
import Derived.Test.YtaolddgnannojaaGreatDoorFsOf
import Derived.Conc.MuLone
namespace Go.Proofs.YtaolddgnannojaaGreatDoor
open Go.RowKit Go.Maps

attribute [local go_sem] lt1 lt2 lt3 lt4 lt5 lt6

/-- a block that a file system writes: never one of the boxes that its changes' functions have captured -/
def Mut (w : World) (b : Nat) : Prop := (∃ o, w.heap[b]? = some o ∧ ∀ cs t f, o ≠ .cells cs t f) ∨ ∃ cs t, w.heap[b]? = some (.cells cs t (0, 0)) ∧ (t = 49 ∨ t = 63 ∨ t = 58 ∨ t = 5)
/-- only blocks of S have turned; and all of them are such -/
structure Frm (S : List Nat) (w w' : World) : Prop where
  fr : Fr S w w'
  may : ∀ k, k ∈ S → k < w.heap.size → Mut w k
theorem box_kept {w w' : World} {S : List Nat} (h : Frm S w w') {a : Nat} {cs : Array Value} {t : TypeId} (ha : w.heap[a]? = some (.cells cs t (0, 0))) (ht : t = 9 ∨ t = 3) : w'.heap[a]? = some (.cells cs t (0, 0)) := by
  refine (h.fr.block a (lt_of_heap ha) fun hh => ?_).trans ha
  rcases h.may a hh (lt_of_heap ha) with ⟨o, he, hn⟩ | ⟨cs', t', he, hk⟩
  · rw [ha] at he; cases he; exact absurd rfl (hn _ _ _)
  · rw [ha] at he
    simp only [Option.some.injEq, Obj.cells.injEq] at he
    obtain ⟨_, rfl, _⟩ := he
    rcases ht with rfl | rfl <;> rcases hk with h | h | h | h <;> exact absurd h (by decide)
/-- a box of another type than what a file system writes -/
def BoxT (t : TypeId) : Prop := t ≠ 49 ∧ t ≠ 63 ∧ t ≠ 58 ∧ t ≠ 5
theorem box_keptT {w w' : World} {S : List Nat} (h : Frm S w w') {a : Nat} {cs : Array Value} {t : TypeId} (ha : w.heap[a]? = some (.cells cs t (0, 0))) (ht : BoxT t) : w'.heap[a]? = some (.cells cs t (0, 0)) := by
  refine (h.fr.block a (lt_of_heap ha) fun hh => ?_).trans ha
  rcases h.may a hh (lt_of_heap ha) with ⟨o, he, hn⟩ | ⟨cs', t', he, hk⟩
  · rw [ha] at he; cases he; exact absurd rfl (hn _ _ _)
  · rw [ha] at he
    simp only [Option.some.injEq, Obj.cells.injEq] at he
    obtain ⟨_, rfl, _⟩ := he
    rcases hk with h | h | h | h
    · exact absurd h ht.1
    · exact absurd h ht.2.1
    · exact absurd h ht.2.2.1
    · exact absurd h ht.2.2.2
theorem Bs.out {w w' : World} {A : Option Addr} {c : Nat} {d : List UInt8} {F : List Nat} (h : Bs w A c d) (hf : Fr F w w') (ho : 0 < d.length → ∀ a, A = some a → a.block ∉ F) : Bs w' A c d := by
  refine ⟨h.len, h.nil, h.le, h.big, fun hn => ?_⟩
  obtain ⟨b, o, rfl, hx⟩ := h.cells hn
  refine ⟨b, o, rfl, fun j hj => ?_⟩
  have h1 := hx j hj
  have hb : b < w.heap.size := World.block_lt_of_cell? w ⟨b, o + j, none⟩ (h1.trans (u8s_at (by simpa [u8s] using hj)))
  exact (World.cell?_of_block (w := w) (w' := w') (a := ⟨b, o + j, none⟩) (hf.block b hb (ho hn _ rfl))).trans h1
theorem ChgAt.kept {w w' : World} {S : List Nat} {c : Chg} {v : Value} (h : ChgAt w c v) (hf : Frm S w w') : ChgAt w' c v := by
  cases c with
  | put n k =>
    obtain ⟨z1, z2, a, b, rfl, h1, h2⟩ := h
    exact ⟨z1, z2, a, b, rfl, box_kept hf h1 (.inl rfl), box_kept hf h2 (.inr rfl)⟩
  | move n n' k =>
    obtain ⟨z1, z2, z3, a, b, d, rfl, h1, h2, h3⟩ := h
    exact ⟨z1, z2, z3, a, b, d, rfl, box_kept hf h1 (.inl rfl), box_kept hf h2 (.inl rfl), box_kept hf h3 (.inr rfl)⟩
  | del n =>
    obtain ⟨z1, a, rfl, h1⟩ := h
    exact ⟨z1, a, rfl, box_kept hf h1 (.inl rfl)⟩
theorem CPend.kept {w w' : World} {S : List Nat} {c : List Value} {p : Pend} (h : CPend w c p) (hf : Frm S w w') : CPend w' c p := by
  obtain ⟨v, h1, h2⟩ := h
  exact ⟨v, h1, h2.kept hf⟩
theorem row_kept {w w' : World} {S : List Nat} {base : Nat} {e : TypeId} {k : Nat} {v : Value} {n : Nat} {xs : List Value} (h : w.ownsRow base e k v n xs) (hf : Fr S w w') (hv : ∀ b, v.ownBlock = some b → b ∉ S) : w'.ownsRow base e k v n xs := by
  refine ⟨h.1, ?_⟩
  rcases h.2 with hn | ⟨g, cap, cur, rfl, hb, hg, rest⟩
  · exact .inl hn
  · exact .inr ⟨g, cap, cur, rfl, hb, (hf.block g (lt_of_heap hg) (hv g rfl)).trans hg, rest⟩
theorem data_kept {w w' : World} {S : List Nat} {v : Value} {d : List UInt8} (h : DataAt w v d) (hf : Fr S w w') (hv : ∀ b, v.ownBlock = some b → b ∉ S) : DataAt w' v d := by
  rcases h with h | ⟨g, cap, cur, rfl, hg, rest⟩
  · exact .inl h
  · exact .inr ⟨g, cap, cur, rfl, (hf.block g (lt_of_heap hg) (hv g rfl)).trans hg, rest⟩
theorem data_blk {w : World} {v : Value} {d : List UInt8} (h : DataAt w v d) : ∀ b, v.ownBlock = some b → ∃ cur, w.heap[b]? = some (.cells cur 5 (0, 0)) := by
  intro b hb
  rcases h with ⟨rfl, _⟩ | ⟨g, cap, cur, rfl, hg, _⟩
  · simp [Value.ownBlock] at hb
  · simp [Value.ownBlock] at hb
    subst hb
    exact ⟨cur, hg⟩
theorem FileAt.kept {w w' : World} {S : List Nat} {e : Nat × FileC} {f : Nat × Value} (h : FileAt w e f) (hf : Fr S w w') (h1 : f.1 ∉ S) (h2 : ∀ b, f.2.ownBlock = some b → b ∉ S) : FileAt w' e f :=
  ⟨(hf.block _ (lt_of_heap h.1) h1).trans h.1, data_kept h.2 hf h2⟩
theorem map_kept {w w' : World} {S : List Nat} {k : TypeId} {R : Value → Option (Dm × List MemPlace)} {b n : Nat} {D : Dm} (h : w.ownsMap Tryz.prog k R b n D) (hf : Fr S w w') (hb : b ∉ S) : w'.ownsMap Tryz.prog k R b n D := by
  obtain ⟨es, clock, he, F, hs, hD⟩ := h
  exact ⟨es, clock, (hf.block b (lt_of_heap he) hb).trans he, F, hs, hD⟩
theorem all2_kept {α β : Type} {Q Q' : α → β → Prop} : ∀ {l : List α} {m : List β}, All2 Q l m → (∀ a b, b ∈ m → Q a b → Q' a b) → All2 Q' l m
  | [], [], _, _ => trivial
  | [], _ :: _, h, _ => h.elim
  | _ :: _, [], h, _ => h.elim
  | _ :: _, b :: _, h, hq => ⟨hq _ _ (by simp) h.1, all2_kept h.2 fun a b hb => hq a b (by simp [hb])⟩
theorem FsMem.fl_own {M : FsMem} {f : Nat × Value} (h : f ∈ M.fl) : f.1 ∈ M.own ∧ ∀ b, f.2.ownBlock = some b → b ∈ M.own := by
  unfold FsMem.own
  constructor
  · simp only [List.mem_cons, List.mem_append, List.mem_flatMap]
    exact .inr (.inr (.inr (.inr (.inr ⟨f, h, .inl rfl⟩))))
  · intro b hb
    simp only [List.mem_cons, List.mem_append, List.mem_flatMap]
    exact .inr (.inr (.inr (.inr (.inr ⟨f, h, .inr (by rw [hb]; simp)⟩))))
/-- what a file system holds is a block that it may write -/
theorem FsAt.mays {w : World} {M : FsMem} {S : FsSt} (h : FsAt w M S) : ∀ k, k ∈ M.own → Mut w k := by
  intro k hk
  unfold FsMem.own at hk
  simp only [List.mem_cons, List.mem_append, List.mem_flatMap] at hk
  have hfile : ∀ f ∈ M.fl, ∃ e, FileAt w e f := by
    have key : ∀ {l : List (Nat × FileC)} {m : List (Nat × Value)}, All2 (FileAt w) l m → ∀ f ∈ m, ∃ e, FileAt w e f := by
      intro l
      induction l with
      | nil => intro m hm f hf; cases m with
        | nil => simp at hf
        | cons => exact hm.elim
      | cons e l ih => intro m hm f hf; cases m with
        | nil => exact hm.elim
        | cons g m =>
          rcases List.mem_cons.1 hf with rfl | hf
          · exact ⟨e, hm.1⟩
          · exact ih hm.2 f hf
    exact key h.each
  rcases hk with rfl | rfl | rfl | rfl | hk | ⟨f, hf, rfl | hk⟩
  · exact .inr ⟨_, _, h.blk, .inl rfl⟩
  · obtain ⟨es, c, he, _⟩ := h.files; exact .inl ⟨_, he, by simp⟩
  · obtain ⟨es, c, he, _⟩ := h.names; exact .inl ⟨_, he, by simp⟩
  · obtain ⟨es, c, he, _⟩ := h.dur; exact .inl ⟨_, he, by simp⟩
  · obtain ⟨cs, _, hr⟩ := h.pend
    cases hv : M.pv.ownBlock with
    | none => rw [hv] at hk; simp at hk
    | some g =>
      rw [hv] at hk
      simp at hk
      subst hk
      obtain ⟨_, cur, hc⟩ := own_blk hr _ hv
      exact .inr ⟨_, _, hc, .inr (.inl rfl)⟩
  · obtain ⟨e, he⟩ := hfile f hf
    exact .inr ⟨_, _, he.1, .inr (.inr (.inl rfl))⟩
  · obtain ⟨e, he⟩ := hfile f hf
    cases hv : f.2.ownBlock with
    | none => rw [hv] at hk; simp at hk
    | some g =>
      rw [hv] at hk
      simp at hk
      subst hk
      obtain ⟨cur, hc⟩ := data_blk he.2 _ hv
      exact .inr ⟨_, _, hc, .inr (.inr (.inr rfl))⟩
theorem Mut.lt {w : World} {k : Nat} (h : Mut w k) : k < w.heap.size := by
  rcases h with ⟨_, h, _⟩ | ⟨_, _, h, _⟩ <;> exact lt_of_heap h
/-- nothing of it has turned -/
theorem FsAt.apart {w w' : World} {M : FsMem} {S : FsSt} {F : List Nat} (h : FsAt w M S) (hf : Frm F w w') (hd : ∀ k, k ∈ M.own → k ∉ F) : FsAt w' M S := by
  have ho : ∀ k, k ∈ M.own → k ∉ F := hd
  obtain ⟨cs, h1, h2⟩ := h.pend
  refine ⟨(hf.fr.block _ (lt_of_heap h.blk) (ho _ (by simp [FsMem.own]))).trans h.blk, map_kept h.names hf.fr (ho _ (by simp [FsMem.own])), map_kept h.dur hf.fr (ho _ (by simp [FsMem.own])), h.natN, h.natD, map_kept h.files hf.fr (ho _ (by simp [FsMem.own])),
    all2_kept h.each fun e f hm hfa => hfa.kept hf.fr (ho _ (M.fl_own hm).1) fun b hb => ho _ ((M.fl_own hm).2 b hb), ⟨cs, h1.mono fun _ _ h => h.kept hf, row_kept h2 hf.fr fun b hb => ho _ (by simp [FsMem.own, hb])⟩, h.nodup⟩
theorem FsAt.below {w w' : World} {M : FsMem} {S : FsSt} (h : FsAt w M S) (hb : Below w.heap.size w w') : FsAt w' M S :=
  h.apart (F := []) ⟨Fr.of_below hb [], fun k hk => by simp at hk⟩ (fun _ _ => by simp)
/-- a field of its own block has turned -/
theorem FsAt.turned {w w' : World} {M : FsMem} {S S' : FsSt} (h : FsAt w M S) (hf : Fr [M.fb] w w')
    (hb : w'.heap[M.fb]? = some (.cells #[.int .i64 (S'.quota : Nat), .map (some M.fm), .int .i64 (S'.last : Nat), .map (some M.nm), .map (some M.dm), .int .i64 S'.size, M.pv, .int .i64 (S'.steps : Nat), .int .i64 (S'.armed : Nat), .bool S'.down] 49 (0, 0)))
    (h1 : S'.names = S.names) (h2 : S'.dur = S.dur) (h3 : S'.files = S.files) (h4 : S'.pend = S.pend) : FsAt w' M S' := by
  have hfm : Frm [M.fb] w w' := ⟨hf, fun k hk _ => h.mays k (by rw [List.mem_singleton.1 hk]; simp [FsMem.own])⟩
  have hnd := h.nodup
  have ho : ∀ k, k ∈ M.own.tail → k ∉ [M.fb] := fun k hk hh => by
    rw [List.mem_singleton.1 hh] at hk
    exact (List.nodup_cons.1 hnd).1 hk
  obtain ⟨cs, p1, p2⟩ := h.pend
  have hn := h.names
  have hd := h.dur
  have hfl := h.files
  have hN := h.natN
  have hD := h.natD
  have he := h.each
  rw [← h1] at hn hN
  rw [← h2] at hd hD
  rw [← h3] at hfl he
  rw [← h4] at p1 p2
  refine ⟨hb, map_kept hn hf (ho _ (by simp [FsMem.own])), map_kept hd hf (ho _ (by simp [FsMem.own])), hN, hD, map_kept hfl hf (ho _ (by simp [FsMem.own])), ?_, ⟨cs, p1.mono fun _ _ h => h.kept hfm, row_kept p2 hf fun b hb => ho _ (by simp [FsMem.own, hb])⟩, hnd⟩
  refine all2_kept he fun e f hm hfa => hfa.kept hf (ho _ ?_) fun b hb => ho _ ?_
  · have h5 := (M.fl_own hm).1
    unfold FsMem.own at h5 ⊢
    rcases List.mem_cons.1 h5 with h6 | h6
    · exact absurd h.blk (by
        rw [← h6, hfa.1]
        simp)
    · exact h6
  · have h5 := (M.fl_own hm).2 b hb
    unfold FsMem.own at h5 ⊢
    rcases List.mem_cons.1 h5 with h6 | h6
    · obtain ⟨cur, hc⟩ := data_blk hfa.2 b hb
      exact absurd h.blk (by
        rw [← h6, hc]
        simp)
    · exact h6
/-- what has become of a file system -/
structure Gr (M : FsMem) (w : World) (M' : FsMem) (w' : World) : Prop where
  fr : Fr M.own w w'
  new : ∀ k, k ∈ M'.own → k ∈ M.own ∨ w.heap.size ≤ k
  fb : M'.fb = M.fb
theorem Gr.refl (M : FsMem) (w : World) : Gr M w M w := ⟨Fr.refl _ _, fun _ h => .inl h, rfl⟩
theorem Gr.trans {M M' M'' : FsMem} {a b c : World} (h : Gr M a M' b) (k : Gr M' b M'' c) : Gr M a M'' c := by
  refine ⟨⟨k.fr.os.trans h.fr.os, k.fr.tape.trans h.fr.tape, k.fr.output.trans h.fr.output, Nat.le_trans h.fr.size k.fr.size, fun i hi hn => ?_⟩, fun i hi => ?_, k.fb.trans h.fb⟩
  · refine (k.fr.block i (Nat.lt_of_lt_of_le hi h.fr.size) fun hh => ?_).trans (h.fr.block i hi hn)
    rcases h.new i hh with h1 | h1
    · exact hn h1
    · omega
  · rcases k.new i hi with h1 | h1
    · exact h.new i h1
    · exact .inr (Nat.le_trans h.fr.size h1)
theorem Gr.of_fr {M : FsMem} {w w' : World} {F : List Nat} (h : Fr F w w') (hs : ∀ k, k ∈ F → k ∈ M.own) : Gr M w M w' := ⟨h.more hs, fun _ h => .inl h, rfl⟩
theorem Gr.of_below {M : FsMem} {w w' : World} (h : Below w.heap.size w w') : Gr M w M w' := ⟨Fr.of_below h _, fun _ h => .inl h, rfl⟩
theorem Gr.frm {M M' : FsMem} {w w' : World} {S : FsSt} (h : Gr M w M' w') (ha : FsAt w M S) : Frm M.own w w' := ⟨h.fr, fun k hk _ => ha.mays k hk⟩
/-! ### one part of it has turned -/
theorem nodup_part {X B B' Y : List Nat} {n : Nat} (h : (X ++ B ++ Y).Nodup) (hlt : ∀ k, k ∈ X ++ B ++ Y → k < n) (hB : B' = B ∨ (B'.Nodup ∧ ∀ k, k ∈ B' → n ≤ k)) : (X ++ B' ++ Y).Nodup := by
  rcases hB with rfl | ⟨h1, h2⟩
  · exact h
  · rw [List.append_assoc, List.nodup_append] at h ⊢
    obtain ⟨hX, hBY, hd⟩ := h
    rw [List.nodup_append] at hBY ⊢
    refine ⟨hX, ⟨h1, hBY.2.1, fun a ha b hb e => ?_⟩, fun a ha b hb e => ?_⟩
    · subst e
      have h3 := h2 a ha
      have h4 := hlt a (by simp [hb])
      omega
    · subst e
      rcases List.mem_append.1 hb with hb | hb
      · have h3 := h2 a hb
        have h4 := hlt a (by simp [ha])
        omega
      · exact hd a ha a (by simp [hb]) rfl
theorem FsAt.lt {w : World} {M : FsMem} {S : FsSt} (h : FsAt w M S) : ∀ k, k ∈ M.own → k < w.heap.size := fun k hk => (h.mays k hk).lt
theorem blk_toList {v : Value} : v.ownBlock.toList.Nodup := by cases v.ownBlock <;> simp
/-- the pending changes, and fields of its own block -/
theorem FsAt.pended {w w' : World} {M : FsMem} {S S' : FsSt} {pv' : Value} (h : FsAt w M S) (hf : Fr (M.fb :: M.pv.ownBlock.toList) w w')
    (hb : w'.heap[M.fb]? = some (.cells #[.int .i64 (S'.quota : Nat), .map (some M.fm), .int .i64 (S'.last : Nat), .map (some M.nm), .map (some M.dm), .int .i64 S'.size, pv', .int .i64 (S'.steps : Nat), .int .i64 (S'.armed : Nat), .bool S'.down] 49 (0, 0)))
    (hp : ∃ cs, All2 (CPend w') cs S'.pend ∧ w'.ownsRow 0 63 3 pv' S'.pend.length cs.flatten) (hat : pv'.ownBlock = M.pv.ownBlock ∨ ∀ g, pv'.ownBlock = some g → w.heap.size ≤ g)
    (h1 : S'.names = S.names) (h2 : S'.dur = S.dur) (h3 : S'.files = S.files) : FsAt w' { M with pv := pv' } S' ∧ Gr M w { M with pv := pv' } w' := by
  have hnd := h.nodup
  have hlt := h.lt
  have hown : M.own = [M.fb, M.fm, M.nm, M.dm] ++ M.pv.ownBlock.toList ++ M.fl.flatMap fun f => f.1 :: f.2.ownBlock.toList := by simp [FsMem.own]
  rw [hown] at hnd hlt
  have ho : ∀ k, (k ∈ [M.fm, M.nm, M.dm] ∨ k ∈ M.fl.flatMap fun f => f.1 :: f.2.ownBlock.toList) → k ∉ M.fb :: M.pv.ownBlock.toList := by
    intro k hk hh
    rw [List.append_assoc, List.nodup_append] at hnd
    obtain ⟨hX, hBY, hd⟩ := hnd
    rw [List.nodup_append] at hBY
    rcases List.mem_cons.1 hh with rfl | hh
    · rcases hk with hk | hk
      · exact (List.nodup_cons.1 hX).1 hk
      · exact hd M.fb (by simp) M.fb (by simp only [List.mem_append]; exact .inr hk) rfl
    · rcases hk with hk | hk
      · exact hd k (by simp only [List.mem_cons] at hk ⊢; exact .inr hk) k (by simp only [List.mem_append]; exact .inl hh) rfl
      · exact hBY.2.2 k hh k hk rfl
  have hn := h.names
  have hd := h.dur
  have hfl := h.files
  have hN := h.natN
  have hD := h.natD
  have he := h.each
  rw [← h1] at hn hN
  rw [← h2] at hd hD
  rw [← h3] at hfl he
  have hfo : ∀ f ∈ M.fl, f.1 ∉ M.fb :: M.pv.ownBlock.toList ∧ ∀ b, f.2.ownBlock = some b → b ∉ M.fb :: M.pv.ownBlock.toList := fun f hf =>
    ⟨ho _ (.inr (List.mem_flatMap.2 ⟨f, hf, by simp⟩)), fun b hb => ho _ (.inr (List.mem_flatMap.2 ⟨f, hf, by simp [hb]⟩))⟩
  refine ⟨⟨hb, map_kept hn hf (ho _ (.inl (by simp))), map_kept hd hf (ho _ (.inl (by simp))), hN, hD, map_kept hfl hf (ho _ (.inl (by simp))), all2_kept he fun e f hm hfa => hfa.kept hf (hfo f hm).1 (hfo f hm).2, hp, ?_⟩, ?_⟩
  · have hB : pv'.ownBlock.toList = M.pv.ownBlock.toList ∨ (pv'.ownBlock.toList.Nodup ∧ ∀ k, k ∈ pv'.ownBlock.toList → w.heap.size ≤ k) := by
      rcases hat with h5 | h5
      · exact .inl (by rw [h5])
      · exact .inr ⟨blk_toList, fun k hk => h5 k (by simpa using hk)⟩
    have := nodup_part hnd hlt hB
    simpa [FsMem.own] using this
  · refine ⟨hf.more fun k hk => ?_, fun k hk => ?_, rfl⟩
    · rw [hown]
      rcases List.mem_cons.1 hk with rfl | hk
      · simp
      · simp only [List.mem_append]; exact .inl (.inr hk)
    · rw [hown]
      simp only [FsMem.own, List.mem_cons, List.mem_append] at hk ⊢
      rcases hk with h6 | h6 | h6 | h6 | h6 | h6
      · exact .inl (.inl (.inl (.inl h6)))
      · exact .inl (.inl (.inl (.inr (.inl h6))))
      · exact .inl (.inl (.inl (.inr (.inr (.inl h6)))))
      · exact .inl (.inl (.inl (.inr (.inr (.inr (.inl h6))))))
      · rcases hat with h5 | h5
        · exact .inl (.inl (.inr (by rw [← h5]; exact h6)))
        · exact .inr (h5 k (by simpa using h6))
      · exact .inl (.inr h6)
/-- the names -/
theorem FsAt.named {w w' : World} {M : FsMem} {S : FsSt} {D : Dm} (h : FsAt w M S) (hf : Fr [M.nm] w w') (hD : OwnN w' M.nm D) (hN : Nats D) : FsAt w' M { S with names := D } ∧ Gr M w M w' := by
  have hnd := h.nodup
  have hown : M.own = [M.fb, M.fm] ++ [M.nm] ++ (M.dm :: (M.pv.ownBlock.toList ++ M.fl.flatMap fun f => f.1 :: f.2.ownBlock.toList)) := by simp [FsMem.own]
  have hfm : Frm [M.nm] w w' := ⟨hf, fun k hk _ => h.mays k (by rw [List.mem_singleton.1 hk]; simp [FsMem.own])⟩
  rw [hown, List.append_assoc, List.nodup_append] at hnd
  obtain ⟨hX, hBY, hd⟩ := hnd
  have ho : ∀ k, (k ∈ [M.fb, M.fm] ∨ k ∈ (M.dm :: (M.pv.ownBlock.toList ++ M.fl.flatMap fun f => f.1 :: f.2.ownBlock.toList))) → k ∉ [M.nm] := by
    intro k hk hh
    have hh := List.mem_singleton.1 hh
    subst hh
    rcases hk with hk | hk
    · exact hd _ hk _ (by simp) rfl
    · exact (List.nodup_cons.1 hBY).1 hk
  obtain ⟨cs, p1, p2⟩ := h.pend
  refine ⟨⟨(hf.block _ (lt_of_heap h.blk) (ho _ (.inl (by simp)))).trans h.blk, hD, map_kept h.dur hf (ho _ (.inr (by simp))), hN, h.natD, map_kept h.files hf (ho _ (.inl (by simp))), all2_kept h.each fun e f hm hfa => hfa.kept hf (ho _ (.inr ?_)) fun b hb => ho _ (.inr ?_), ⟨cs, p1.mono fun _ _ h => h.kept hfm, row_kept p2 hf fun b hb => ho _ (.inr (by simp [hb]))⟩, h.nodup⟩, Gr.of_fr hf fun k hk => by rw [List.mem_singleton.1 hk]; simp [FsMem.own]⟩
  · simp only [List.mem_cons, List.mem_append]
    exact .inr (.inr (List.mem_flatMap.2 ⟨f, hm, by simp⟩))
  · simp only [List.mem_cons, List.mem_append]
    exact .inr (.inr (List.mem_flatMap.2 ⟨f, hm, by simp [hb]⟩))
/-- the durable names -/
theorem FsAt.dured {w w' : World} {M : FsMem} {S : FsSt} {D : Dm} (h : FsAt w M S) (hf : Fr [M.dm] w w') (hD : OwnN w' M.dm D) (hN : Nats D) : FsAt w' M { S with dur := D } ∧ Gr M w M w' := by
  have hnd := h.nodup
  have hown : M.own = [M.fb, M.fm, M.nm] ++ [M.dm] ++ (M.pv.ownBlock.toList ++ M.fl.flatMap fun f => f.1 :: f.2.ownBlock.toList) := by simp [FsMem.own]
  have hfm : Frm [M.dm] w w' := ⟨hf, fun k hk _ => h.mays k (by rw [List.mem_singleton.1 hk]; simp [FsMem.own])⟩
  rw [hown, List.append_assoc, List.nodup_append] at hnd
  obtain ⟨hX, hBY, hd⟩ := hnd
  have ho : ∀ k, (k ∈ [M.fb, M.fm, M.nm] ∨ k ∈ (M.pv.ownBlock.toList ++ M.fl.flatMap fun f => f.1 :: f.2.ownBlock.toList)) → k ∉ [M.dm] := by
    intro k hk hh
    have hh := List.mem_singleton.1 hh
    subst hh
    rcases hk with hk | hk
    · exact hd _ hk _ (by simp) rfl
    · exact (List.nodup_cons.1 hBY).1 hk
  obtain ⟨cs, p1, p2⟩ := h.pend
  refine ⟨⟨(hf.block _ (lt_of_heap h.blk) (ho _ (.inl (by simp)))).trans h.blk, map_kept h.names hf (ho _ (.inl (by simp))), hD, h.natN, hN, map_kept h.files hf (ho _ (.inl (by simp))), all2_kept h.each fun e f hm hfa => hfa.kept hf (ho _ (.inr ?_)) fun b hb => ho _ (.inr ?_), ⟨cs, p1.mono fun _ _ h => h.kept hfm, row_kept p2 hf fun b hb => ho _ (.inr (by simp [hb]))⟩, h.nodup⟩, Gr.of_fr hf fun k hk => by rw [List.mem_singleton.1 hk]; simp [FsMem.own]⟩
  · simp only [List.mem_append]
    exact .inr (List.mem_flatMap.2 ⟨f, hm, by simp⟩)
  · simp only [List.mem_append]
    exact .inr (List.mem_flatMap.2 ⟨f, hm, by simp [hb]⟩)
/-! ### maps of numbers -/
theorem Nats.put {D : Dm} (h : Nats D) {s : ByteArray} (n : Nat) : Nats (D.put (sk s) (nval n)) :=
  ⟨h.1.put _ _, fun k => by
    by_cases e : k = sk s
    · subst e
      exact ⟨n, atKey_put_same h.1 (by trivial) _ _⟩
    · obtain ⟨m, hm⟩ := h.2 k
      exact ⟨m, (atKey_put_other e _ _).trans hm⟩⟩
theorem Nats.del {D : Dm} (h : Nats D) (s : ByteArray) : Nats (D.del (sk s)) :=
  ⟨h.1.del _, fun k => by
    by_cases e : k = sk s
    · subst e
      exact ⟨0, atKey_del_same _⟩
    · obtain ⟨m, hm⟩ := h.2 k
      exact ⟨m, (atKey_del_other e _).trans hm⟩⟩
theorem Nats.chg {D : Dm} (h : Nats D) (c : Chg) : Nats (c.on D) := by
  cases c with
  | put n k => exact h.put k
  | move a b k => exact (h.del a).put k
  | del n => exact h.del n
theorem Nats.made : Nats (.map []) := ⟨isMap_empty, fun _ => ⟨0, rfl⟩⟩
end Go.Proofs.YtaolddgnannojaaGreatDoor
namespace Go.Proofs.YtaolddgnannojaaGreatDoor
open Go.RowKit Go.Maps

attribute [local go_sem] lt1 lt2 lt3 lt4 lt5 lt6

theorem own_size {w : World} {k : TypeId} {R : Value → Option (Dm × List MemPlace)} {b n : Nat} {D : Dm} (h : w.ownsMap Tryz.prog k R b n D) : w.ownsMap Tryz.prog k R b (Maps.size D) D := by
  obtain ⟨es, clock, he, F, _, hD⟩ := h
  refine ⟨es, clock, he, F, ?_, hD⟩
  rw [hD, size_eq, length_read]
  exact Nat.le_refl _
def ChgPost (w : World) (b : Nat) (D : Dm) (e : Ending) (w' : World) : Prop := e = .returned (.tuple #[]) ∧ OwnN w' b D ∧ w.grownBy w' (some b)
theorem plainNat (k : Nat) (hk : k ≤ 9223372036854775807) : plainElem (H := Unit) Tryz.prog 3 (.int .i64 (k : Nat)) = some (nval k, []) := plainElem_int Tryz.underlying3 (WalkArith.wf_i64 (n := (k : Int)) (by omega))
theorem chg_put (w : World) (b : Nat) (D : Dm) (n : ByteArray) (k ga gb : Nat) (hD : OwnN w b D) (hl : Maps.size D < maxLen) (hn : n.size ≤ maxLen) (hk : k ≤ 9223372036854775807)
    (h1 : w.heap[ga]? = some (.cells #[.string n] 9 (0, 0))) (h2 : w.heap[gb]? = some (.cells #[.int .i64 (k : Nat)] 3 (0, 0))) :
    Calls Tryz.prog 28 #[.map (some b), .pointer (some ⟨gb, 0, none⟩), .pointer (some ⟨ga, 0, none⟩)] w (ChgPost w b (Chg.on (.put n k) D)) := by
  have c1 : w.cell? ⟨ga, 0, none⟩ = some (.string n) := (blk_cells h1).1 0
  have c2 : w.cell? ⟨gb, 0, none⟩ = some (.int .i64 (k : Nat)) := (blk_cells h2).1 0
  have HD := Lib.hid hD
  clear hD h1 h2
  go_enter Tryz.func28, Tryz.ntmps28
  go_wp2_with (first | (at_mapUpdate; refine wpList_mapUpdate_own _ rfl _ _ _ 46 rfl 9 3 strK Tryz.underlying46 _ b _ D rfl HD.out hl _ _ _ rfl rfl (WideMaps.keyOf_string_mk Tryz.underlying9 hn) _ [] (plainNat k hk) ?_) | go_in)
  intro w1 hown hg
  have Hown := Lib.hid (own_size hown)
  have Hg := Lib.hid hg
  clear hown hg
  go_wp2_with fail
  go_end0
  exact ⟨rfl, Hown.out, Hg.out⟩
theorem chg_del (w : World) (b : Nat) (D : Dm) (n : ByteArray) (ga : Nat) (hD : OwnN w b D) (hn : n.size ≤ maxLen) (h1 : w.heap[ga]? = some (.cells #[.string n] 9 (0, 0))) :
    Calls Tryz.prog 78 #[.map (some b), .pointer (some ⟨ga, 0, none⟩)] w (ChgPost w b (Chg.on (.del n) D)) := by
  have c1 : w.cell? ⟨ga, 0, none⟩ = some (.string n) := (blk_cells h1).1 0
  have HD := Lib.hid hD
  clear hD h1
  go_enter Tryz.func78, Tryz.ntmps78
  go_wp2_with (first | (at_delete; refine wpList_delete_own _ rfl _ _ 46 9 rfl 3 strK Tryz.underlying46 _ b _ D rfl HD.out _ _ rfl (WideMaps.keyOf_string_mk Tryz.underlying9 hn) ?_) | go_in)
  intro w1 hown hg
  have Hown := Lib.hid (own_size hown)
  have Hg := Lib.hid hg.grown
  clear hown hg
  go_wp2_with fail
  go_end0
  exact ⟨rfl, Hown.out, Hg.out⟩
theorem chg_move (w : World) (b : Nat) (D : Dm) (n n' : ByteArray) (k ga gb gd : Nat) (hD : OwnN w b D) (hl : Maps.size D < maxLen) (hn : n.size ≤ maxLen) (hn' : n'.size ≤ maxLen) (hk : k ≤ 9223372036854775807)
    (h1 : w.heap[ga]? = some (.cells #[.string n] 9 (0, 0))) (h2 : w.heap[gb]? = some (.cells #[.string n'] 9 (0, 0))) (h3 : w.heap[gd]? = some (.cells #[.int .i64 (k : Nat)] 3 (0, 0))) :
    Calls Tryz.prog 76 #[.map (some b), .pointer (some ⟨ga, 0, none⟩), .pointer (some ⟨gd, 0, none⟩), .pointer (some ⟨gb, 0, none⟩)] w (ChgPost w b (Chg.on (.move n n' k) D)) := by
  have c1 : w.cell? ⟨ga, 0, none⟩ = some (.string n) := (blk_cells h1).1 0
  have hbm : ∃ es c, w.heap[b]? = some (.map es c) := by obtain ⟨es, c, he, _⟩ := hD; exact ⟨es, c, he⟩
  have HD := Lib.hid hD
  have H2 := Lib.hid h2
  have H3 := Lib.hid h3
  clear hD h1 h2 h3
  go_enter Tryz.func76, Tryz.ntmps76
  go_wp2_with (first | (at_delete; refine wpList_delete_own _ rfl _ _ 46 9 rfl 3 strK Tryz.underlying46 _ b _ D rfl HD.out _ _ rfl (WideMaps.keyOf_string_mk Tryz.underlying9 hn) ?_) | go_in)
  intro w1 hown hg
  have hne : ∀ {g : Nat} {cs : Array Value} {t : TypeId}, w.heap[g]? = some (.cells cs t (0, 0)) → w1.heap[g]? = some (.cells cs t (0, 0)) := fun {g cs t} h => by
    refine (hg.grown.block g (lt_of_heap h) fun e => ?_).trans h
    obtain ⟨es, c, he⟩ := hbm
    cases e
    rw [h] at he
    cases he
  have c2 : w1.cell? ⟨gb, 0, none⟩ = some (.string n') := (blk_cells (hne H2.out)).1 0
  have c3 : w1.cell? ⟨gd, 0, none⟩ = some (.int .i64 (k : Nat)) := (blk_cells (hne H3.out)).1 0
  have Hg := Lib.hid hg.grown
  have hsz : Maps.size (D.del (sk n)) < maxLen := by have h5 : Maps.size (D.del (sk n)) ≤ Maps.size D := hown.size_le; omega
  have Hown := Lib.hid (own_size hown)
  clear hown hg hne
  go_wp2_with (first | (at_mapUpdate; refine wpList_mapUpdate_own _ rfl _ _ _ 46 rfl 9 3 strK Tryz.underlying46 _ b _ (D.del (sk n)) rfl Hown.out hsz _ _ _ rfl rfl (WideMaps.keyOf_string_mk Tryz.underlying9 hn') _ [] (plainNat k hk) ?_) | go_in)
  intro w2 hown2 hg2
  have Hown2 := Lib.hid (own_size hown2)
  have Hg2 := Lib.hid (Hg.out.andThen hg2 fun j hj => .inr hj)
  clear hown2 hg2
  go_wp2_with fail
  go_end0
  exact ⟨rfl, Hown2.out, Hg2.out⟩
theorem enter_put (args : Array Value) (w : World) : (callFunc 28 args).run Tryz.prog w = .ok (.enter 28 args) w := Go.MuLone.run_callFunc_enter Tryz.func28 (by kernel_rfl) rfl args w
theorem enter_move (args : Array Value) (w : World) : (callFunc 76 args).run Tryz.prog w = .ok (.enter 76 args) w := Go.MuLone.run_callFunc_enter Tryz.func76 (by kernel_rfl) rfl args w
theorem enter_del (args : Array Value) (w : World) : (callFunc 78 args).run Tryz.prog w = .ok (.enter 78 args) w := Go.MuLone.run_callFunc_enter Tryz.func78 (by kernel_rfl) rfl args w
/-- what a change's function does -/
theorem chg_any (w : World) (b : Nat) (D : Dm) (c : Chg) (v : Value) (h : ChgAt w c v) (hD : OwnN w b D) (hl : Maps.size D < maxLen) :
    ∃ F cs, v = .func (.func F) #[] cs ∧ (∀ args w, (callFunc F args).run Tryz.prog w = .ok (.enter F args) w) ∧ Calls Tryz.prog F (#[.map (some b)] ++ cs) w (ChgPost w b (c.on D)) := by
  cases c with
  | put n k =>
    obtain ⟨z1, z2, ga, gb, rfl, h1, h2⟩ := h
    exact ⟨_, _, rfl, enter_put, chg_put w b D n k ga gb hD hl z1 z2 h1 h2⟩
  | move n n' k =>
    obtain ⟨z1, z2, z3, ga, gb, gd, rfl, h1, h2, h3⟩ := h
    exact ⟨_, _, rfl, enter_move, chg_move w b D n n' k ga gb gd hD hl z1 z2 z3 h1 h2 h3⟩
  | del n =>
    obtain ⟨z1, ga, rfl, h1⟩ := h
    exact ⟨_, _, rfl, enter_del, chg_del w b D n ga hD z1 h1⟩
end Go.Proofs.YtaolddgnannojaaGreatDoor
