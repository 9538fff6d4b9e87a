/-
  Plain: a file that is written beside, synced and renamed onto a name: what a crash leaves of the name.
-/
import Derived.Test.YtaolddgnannojaaGreatDoorFsRp
namespace Go.Proofs.YtaolddgnannojaaGreatDoor
open Go.RowKit Go.Maps

/-! ### a valid name's directory -/
theorem pieces_cat (c : UInt8) : ∀ a b : List UInt8, pieces c (a ++ c :: b) = pieces c a ++ pieces c b
  | [], b => by simp [pieces]
  | x :: a, b => by
    rw [List.cons_append]
    by_cases h : x = c
    · subst h
      rw [pieces, if_pos rfl, pieces, if_pos rfl, pieces_cat]
      rfl
    · rw [pieces, if_neg h, pieces, if_neg h, pieces_cat]
      cases hp : pieces c a with
      | nil => exact absurd hp (pieces_ne c a)
      | cons p ps => rfl
theorem dir_valid {s : ByteArray} (h : validF (toL s) = true) : ¬ ((dirOf s).size ≠ 0 ∧ validF (toL (dirOf s)) = false) := by
  rintro ⟨h1, h2⟩
  have hd : dirOf s = s.extract 0 (max (Lib.lastIndexByte s 47) 0).toNat := rfl
  rcases Lib.lastIndexByte_spec s 47 with ⟨h3, _⟩ | ⟨i, hi, h3, h4, _⟩
  · rw [hd, h3] at h1
    apply h1
    have : (max (-1 : Int) 0).toNat = 0 := by decide
    rw [this]
    simp
  · have e1 : (max (Lib.lastIndexByte s 47) 0).toNat = i := by rw [h3]; omega
    rw [hd, e1] at h1 h2
    have hl : toL s = (toL s).take i ++ (toL s).getD i 0 :: (toL s).drop (i + 1) := by
      have hi' : i < (toL s).length := by unfold toL; simpa using hi
      rw [List.getD_eq_getElem?_getD, List.getElem?_eq_getElem hi', Option.getD_some]
      simp
    have h47 : (toL s).getD i 0 = 47 := by
      have hi' : i < s.data.size := hi
      have h5 : s.data[i]! = s.data[i] := by rw [getElem!_pos s.data i hi']
      rw [h5] at h4
      have h6 : (toL s).getD i 0 = s.data[i] := by
        unfold toL
        rw [List.getD_eq_getElem?_getD, List.getElem?_eq_getElem (by simpa using hi'), Option.getD_some]
        simp
      rw [h6]
      apply UInt8.toNat_inj.1
      have : (47 : UInt8).toNat = 47 := by decide
      omega
    rw [h47] at hl
    have he : toL (s.extract 0 i) = (toL s).take i := by
      unfold toL
      simp [ByteArray.data_extract]
    rw [he] at h2
    unfold validF at h h2
    rw [hl, pieces_cat, List.all_append] at h
    simp only [Bool.and_eq_true, decide_eq_true_eq] at h
    obtain ⟨⟨_, hlen⟩, hall, _⟩ := h
    have hne : (toL s).take i ≠ [] := by
      intro e0
      have : (s.extract 0 i).size = 0 := by
        have h7 : (toL (s.extract 0 i)).length = 0 := by rw [he, e0]; rfl
        unfold toL at h7
        simpa using h7
      exact h1 this
    have hlen2 : ((toL s).take i).length ≤ 240 := by
      have := List.length_take_le i (toL s)
      have h8 : (toL s).length ≤ 240 := by rw [hl]; exact hlen
      have h9 := List.length_take_le' i (toL s)
      omega
    rw [hall] at h2
    have hx : ((toL s).take i != []) = true := by rw [bne_iff_ne]; exact hne
    rw [hx, decide_eq_true hlen2] at h2
    cases h2
theorem valid_pos {s : ByteArray} (h : validF (toL s) = true) : 1 ≤ s.size := by
  unfold validF at h
  simp only [Bool.and_eq_true, bne_iff_ne] at h
  have h1 : toL s ≠ [] := h.1.1
  rcases Nat.eq_zero_or_pos s.size with h2 | h2
  · exfalso
    apply h1
    apply List.eq_nil_of_length_eq_zero
    unfold toL
    simpa using h2
  · exact h2
/-! ### one file of many -/
theorem numF_set {k : Nat} {c' : FileC} : ∀ (fs : List (Nat × FileC)) (i : Nat), fs.findIdx? (fun e => e.1 == k) = some i → ∀ j, numF (fs.set i ((fs.getD i (0, ⟨[], 0⟩)).1, c')) j = if j = k then some c' else numF fs j
  | [], i, h, j => by simp at h
  | e :: fs, i, h, j => by
    rw [List.findIdx?_cons] at h
    cases he : e.1 == k with
    | true =>
      rw [he] at h
      simp only [if_true, Option.some.injEq] at h
      subst h
      have hek : e.1 = k := by simpa using he
      simp only [List.set_cons_zero, List.getD_cons_zero, numF, List.find?_cons]
      by_cases hj : j = k
      · subst hj
        simp [he]
      · have h2 : (e.1 == j) = false := by simp; omega
        rw [h2, if_neg hj]
    | false =>
      rw [he] at h
      simp only [Bool.false_eq_true, if_false, Option.map_eq_some_iff] at h
      obtain ⟨i', h1, rfl⟩ := h
      have ih := numF_set (c' := c') fs i' h1 j
      simp only [List.set_cons_succ, List.getD_cons_succ]
      have hek : e.1 ≠ k := by simpa using he
      unfold numF at ih ⊢
      rw [List.find?_cons, List.find?_cons]
      cases h2 : e.1 == j with
      | true =>
        have : e.1 = j := by simpa using h2
        rw [if_neg (by omega)]
      | false => exact ih
theorem of_num {S : FsSt} {s : ByteArray} {c : FileC} (h : numF S.files (nget S.names s) = some c) : ∃ i, S.of s = some i ∧ (S.fileD i).2 = c := by
  have h1 := S.idx_num (nget S.names s)
  rw [h] at h1
  cases hi : S.idx (nget S.names s) with
  | none => rw [hi] at h1; cases h1
  | some i =>
    rw [hi] at h1
    exact ⟨i, hi, by simpa using h1⟩
theorem sync_num {S : FsSt} {s : ByteArray} {i : Nat} (h : S.of s = some i) (j : Nat) : numF (S.sync1 i).files j = if j = nget S.names s then some ⟨(S.fileD i).2.d, (S.fileD i).2.d.length⟩ else numF S.files j :=
  numF_set S.files i h j
/-- a file that is wholly durable -/
def Full (S : FsSt) (k : Nat) (d : List UInt8) : Prop := k ≠ 0 ∧ numF S.files k = some ⟨d, d.length⟩
/-- whatever a crash keeps, it leaves these bytes under a name -/
def Was (S : FsSt) (name : ByteArray) (d : List UInt8) : Prop := ∀ n : Int, Full S (nget (S.crashD n) name) d
def WasIs (S : FsSt) (name : ByteArray) (d d' : List UInt8) : Prop := ∀ n : Int, Full S (nget (S.crashD n) name) d ∨ Full S (nget (S.crashD n) name) d'
theorem read_full {K : Nat} {S : FsSt} (h : FsGood K S) {n : Int} (y : Int) {name : ByteArray} {d : List UInt8} (hw : Full S (nget (S.crashD n) name) d) : ∃ i, (S.crash n y).of name = some i ∧ ((S.crash n y).fileD i).2.d = d := by
  obtain ⟨c, h1, _, h2⟩ := crash_file h n y hw.1
  rw [hw.2] at h1
  cases h1
  obtain ⟨i, h3, h4⟩ := of_num (S := S.crash n y) (s := name) h2
  refine ⟨i, h3, ?_⟩
  rw [h4]
  unfold cutF
  simp
theorem crashD_nil {S : FsSt} (h : S.pend = []) (n : Int) : S.crashD n = S.dur := by
  unfold FsSt.crashD
  rw [h]
  simp [durOf]
/-! ### the road -/
structure R1 (S : FsSt) (name : ByteArray) (d : List UInt8) : Prop where
  pend : S.pend = []
  up : S.down = false
  full : Full S (nget S.dur name) d
theorem R1.was {S : FsSt} {name : ByteArray} {d : List UInt8} (h : R1 S name d) : Was S name d := fun n => by rw [crashD_nil h.pend]; exact h.full
theorem R1.arm {S : FsSt} {name : ByteArray} {d : List UInt8} (h : R1 S name d) (a : Nat) : R1 { S with armed := a } name d := ⟨h.pend, h.up, h.full⟩
theorem Was.fails {S : FsSt} {name : ByteArray} {d : List UInt8} (h : Was S name d) : Was S.fails name d := h
theorem Was.arm {S : FsSt} {name : ByteArray} {d : List UInt8} (h : Was S name d) (a : Nat) : Was { S with armed := a } name d := h
theorem FsGood.new_num {K : Nat} {S : FsSt} (h : FsGood K S) : numF S.files (S.last + 1) = none := by
  rw [numF_none, List.mem_map]
  rintro ⟨e, he, hk⟩
  have := (h.inv.rng e he).2
  omega
theorem FsGood.num_le {K : Nat} {S : FsSt} (h : FsGood K S) {k : Nat} {c : FileC} (hk : numF S.files k = some c) : k ≤ S.last := (h.inv.rng _ (numF_mem hk)).2
/-- a made file's number, the old ones -/
theorem write_num {K : Nat} {S : FsSt} (h : FsGood K S) (name : ByteArray) (d : List UInt8) (z : Int) (k : Nat) : numF (S.write1 name d z).files k = if k = S.last + 1 then some ⟨d, 0⟩ else numF S.files k := by
  show numF (S.files ++ [(S.last + 1, ⟨d, 0⟩)]) k = _
  rw [numF_append]
  by_cases hk : k = S.last + 1
  · rw [if_pos hk, hk, h.new_num]
    simp [numF]
  · rw [if_neg hk]
    have : numF [(S.last + 1, (⟨d, 0⟩ : FileC))] k = none := by
      rw [numF_none]
      simp
      omega
    rw [this]
    simp
theorem nget_move {D : Dm} (h : DirOk D) (a b s : ByteArray) {k : Nat} : nget ((D.del (sk a)).put (sk b) (nval k)) s = if s = b then k else if s = a then 0 else nget D s := by
  rw [nget_put (h.del a).tidy.isMap, nget_del]
theorem lastN_end (ps : List Pend) (p : Pend) : lastN (ps ++ [p]) p.dir (ps ++ [p]).length = (ps ++ [p]).length := by
  rw [List.length_append]
  show lastN (ps ++ [p]) p.dir (ps.length + 1) = _
  rw [lastN]
  have : (ps ++ [p]).getD ps.length noPend = p := by simp [List.getD_eq_getElem?_getD]
  rw [this, if_pos rfl]
  rfl
/-- what is used stays -/
theorem settle_num {K : Nat} {S : FsSt} (h : FsGood K S) (n : Nat) {s : ByteArray} (hs : nget (durOf S.dur (S.pend.take n)) s ≠ 0) : numF (S.settle n).files (nget (durOf S.dur (S.pend.take n)) s) = numF S.files (nget (durOf S.dur (S.pend.take n)) s) := by
  show numF (S.files.filter fun e => (usedL S.names (durOf S.dur (S.pend.take n)) (S.pend.drop n)).contains e.1) _ = _
  refine numF_filter (q := (usedL S.names (durOf S.dur (S.pend.take n)) (S.pend.drop n)).contains) ?_
  rw [List.contains_iff_mem]
  unfold usedL
  exact List.mem_append_left _ (List.mem_append_right _ (vals_mem (h.durs n).1.dir hs))
/-- the old file is written and made durable -/
theorem prologue {K : Nat} {S : FsSt} (h : FsGood K S) (hA : S.armed = 0) (hD : S.down = false) (hP : S.pend = []) {name : ByteArray} (hv : validF (toL name) = true) (hn : name.size ≤ 1048576) (d : List UInt8) :
    (S.write name d).1 = 4 ∨ ((S.write name d).1 = 0 ∧ ((S.write name d).2.sync name).1 = 0 ∧ (((S.write name d).2.sync name).2.syncdir (dirOf name)).1 = 0 ∧ R1 (((S.write name d).2.sync name).2.syncdir (dirOf name)).2 name d) := by
  by_cases hf : S.full (S.more name d.length).1 (S.more name d.length).2 = true
  · left
    unfold FsSt.write
    rw [if_neg (by rw [hD]; simp), if_pos hv, if_pos hf]
  · right
    have hg := good_write h hn d
    have e1 : S.write name d = (0, (S.tick.write1 name d (S.more name d.length).1).stepped) := by
      unfold FsSt.write
      rw [if_neg (by rw [hD]; simp), if_pos hv, if_neg hf]
      unfold FsSt.wrErr FsSt.wrote
      rw [hA]
      rfl
    rw [e1] at hg ⊢
    obtain ⟨S1, hS1⟩ : ∃ S1, S1 = (S.tick.write1 name d (S.more name d.length).1).stepped := ⟨_, rfl⟩
    have p1 : S1.pend = [⟨dirOf name, S.last + 1, .put name (S.last + 1)⟩] := by rw [hS1]; show S.pend ++ _ = _; rw [hP]; rfl
    have p2 : S1.down = false := by rw [hS1]; exact hD
    have p3 : S1.armed = 0 := by rw [hS1]; show S.armed - 1 = 0; omega
    have p4 : S1.dur = S.dur := by rw [hS1]; rfl
    have p5 : nget S1.names name = S.last + 1 := by
      rw [hS1]
      show nget (S.names.put (sk name) (nval (S.last + 1))) name = _
      rw [nget_put h.dn.tidy.isMap, if_pos rfl]
    have p6 : numF S1.files (S.last + 1) = some ⟨d, 0⟩ := by
      rw [hS1]
      show numF (S.tick.write1 name d (S.more name d.length).1).files _ = _
      rw [write_num h.tick]
      exact if_pos rfl
    rw [← hS1] at hg ⊢
    clear e1 hS1
    simp only
    have hof : numF S1.files (nget S1.names name) = some ⟨d, 0⟩ := by rw [p5]; exact p6
    obtain ⟨i, hi, hc⟩ := of_num hof
    have hg2 := good_sync hg name
    have e2 : S1.sync name = (0, (S1.tick.sync1 i).stepped) := by
      unfold FsSt.sync
      rw [if_neg (by rw [p2]; simp), hi]
      unfold FsSt.wrErr FsSt.wrote
      rw [p3]
      rfl
    rw [e2] at hg2 ⊢
    obtain ⟨S2, hS2⟩ : ∃ S2, S2 = (S1.tick.sync1 i).stepped := ⟨_, rfl⟩
    have q1 : S2.pend = [⟨dirOf name, S.last + 1, .put name (S.last + 1)⟩] := by rw [hS2]; exact p1
    have q2 : S2.down = false := by rw [hS2]; exact p2
    have q3 : S2.armed = 0 := by rw [hS2]; show S1.armed - 1 = 0; omega
    have q6 : numF S2.files (S.last + 1) = some ⟨d, d.length⟩ := by
      rw [hS2]
      show numF (S1.tick.sync1 i).files _ = _
      rw [sync_num (S := S1.tick) (s := name) hi]
      have h1 : (S1.tick.fileD i).2 = ⟨d, 0⟩ := hc
      have h2 : nget S1.tick.names name = S.last + 1 := p5
      rw [h1, h2, if_pos rfl]
    rw [← hS2] at hg2 ⊢
    clear e2 hS2
    simp only
    have e3 : S2.syncdir (dirOf name) = (0, (S2.tick.syncdir1 (dirOf name)).stepped) := by
      unfold FsSt.syncdir
      rw [if_neg (by rw [q2]; simp), if_neg (dir_valid hv)]
      unfold FsSt.wrErr FsSt.wrote
      rw [q3]
      rfl
    rw [e3]
    have hln : lastN S2.tick.pend (dirOf name) S2.tick.pend.length = 1 := by
      show lastN S2.pend (dirOf name) S2.pend.length = 1
      rw [q1]
      exact lastN_end [] ⟨dirOf name, S.last + 1, .put name (S.last + 1)⟩
    have hdu : nget (durOf S2.tick.dur (S2.tick.pend.take 1)) name = S.last + 1 := by
      show nget (durOf S2.dur (S2.pend.take 1)) name = _
      rw [q1]
      show nget (S2.dur.put (sk name) (nval (S.last + 1))) name = _
      rw [nget_put hg2.dd.tidy.isMap, if_pos rfl]
    refine ⟨by simp, by simp, rfl, ?_, ?_, ?_⟩
    · show (S2.tick.settle (lastN S2.tick.pend (dirOf name) S2.tick.pend.length)).pend = []
      rw [hln]
      show S2.pend.drop 1 = []
      rw [q1]
      rfl
    · exact q2
    · show Full (S2.tick.settle (lastN S2.tick.pend (dirOf name) S2.tick.pend.length)).stepped (nget (S2.tick.settle (lastN S2.tick.pend (dirOf name) S2.tick.pend.length)).dur name) d
      rw [hln]
      show Full (S2.tick.settle 1).stepped (nget (durOf S2.tick.dur (S2.tick.pend.take 1)) name) d
      have h5 := settle_num hg2.tick 1 (s := name) (by rw [hdu]; omega)
      rw [hdu] at h5 ⊢
      exact ⟨by omega, by show numF (S2.tick.settle 1).files _ = _; rw [h5]; exact q6⟩
/-- the new one is written beside -/
structure R2 (S : FsSt) (name bes : ByteArray) (d f : List UInt8) (k sy : Nat) : Prop where
  pend : S.pend = [⟨dirOf bes, k, .put bes k⟩]
  up : S.down = false
  full : Full S (nget S.dur name) d
  ne : k ≠ 0 ∧ nget S.dur name ≠ k
  now : nget S.names bes = k
  file : numF S.files k = some ⟨f, sy⟩
theorem take_one {α : Type} (x : α) (n : Nat) : [x].take n = [] ∨ [x].take n = [x] := by
  cases n with
  | zero => exact .inl rfl
  | succ n => exact .inr (by simp)
theorem take_two {α : Type} (x y : α) (n : Nat) : [x, y].take n = [] ∨ [x, y].take n = [x] ∨ [x, y].take n = [x, y] := by
  match n with
  | 0 => exact .inl rfl
  | 1 => exact .inr (.inl rfl)
  | n + 2 => exact .inr (.inr (by simp))
theorem R2.was {K : Nat} {S : FsSt} (hg : FsGood K S) {name bes : ByteArray} {d f : List UInt8} {k sy : Nat} (h : R2 S name bes d f k sy) (hb : bes ≠ name) : Was S name d := fun n => by
  unfold FsSt.crashD
  rw [h.pend]
  rcases take_one (⟨dirOf bes, k, .put bes k⟩ : Pend) (crashN S n) with e | e
  · rw [e]; exact h.full
  · rw [e]
    show Full S (nget (S.dur.put (sk bes) (nval k)) name) d
    rw [nget_put hg.dd.tidy.isMap, if_neg (Ne.symm hb)]
    exact h.full
theorem write_r {K : Nat} {S : FsSt} (hg : FsGood K S) {name bes : ByteArray} {d : List UInt8} (h : R1 S name d) (f : List UInt8) :
    ((S.write bes f).1 ≠ 0 ∧ Was (S.write bes f).2 name d) ∨ ((S.write bes f).1 = 0 ∧ ∃ k, R2 (S.write bes f).2 name bes d f k 0) := by
  unfold FsSt.write
  rw [if_neg (by rw [h.up]; simp)]
  split
  · split
    · exact .inl ⟨by simp, h.was⟩
    · by_cases ha : S.armed = 1
      · left
        unfold FsSt.wrErr FsSt.wrote
        rw [if_pos ha, if_pos ha]
        exact ⟨by simp, h.was⟩
      · right
        unfold FsSt.wrErr FsSt.wrote
        rw [if_neg ha, if_neg ha]
        have hk := hg.num_le h.full.2
        refine ⟨rfl, S.last + 1, ?_, h.up, ⟨h.full.1, ?_⟩, ⟨by omega, ?_⟩, ?_, ?_⟩
        · show S.pend ++ _ = _
          rw [h.pend]
          rfl
        · show numF (S.tick.write1 bes f (S.more bes f.length).1).files (nget S.dur name) = _
          rw [write_num hg.tick, if_neg (by show nget S.dur name ≠ S.last + 1; omega)]
          exact h.full.2
        · show nget S.dur name ≠ S.last + 1
          omega
        · show nget (S.names.put (sk bes) (nval (S.last + 1))) bes = _
          rw [nget_put hg.dn.tidy.isMap, if_pos rfl]
        · show numF (S.tick.write1 bes f (S.more bes f.length).1).files (S.last + 1) = _
          rw [write_num hg.tick]
          exact if_pos rfl
  · exact .inl ⟨by simp, h.was⟩
theorem sync_r {K : Nat} {S : FsSt} (hg : FsGood K S) {name bes : ByteArray} {d f : List UInt8} {k sy : Nat} (h : R2 S name bes d f k sy) (hb : bes ≠ name) :
    ((S.sync bes).1 ≠ 0 ∧ Was (S.sync bes).2 name d) ∨ ((S.sync bes).1 = 0 ∧ R2 (S.sync bes).2 name bes d f k f.length) := by
  have hof : numF S.files (nget S.names bes) = some ⟨f, sy⟩ := by rw [h.now]; exact h.file
  obtain ⟨i, hi, hc⟩ := of_num hof
  unfold FsSt.sync
  rw [if_neg (by rw [h.up]; simp), hi]
  simp only
  by_cases ha : S.armed = 1
  · left
    unfold FsSt.wrErr FsSt.wrote
    rw [if_pos ha, if_pos ha]
    exact ⟨by simp, R2.was hg h hb⟩
  · right
    unfold FsSt.wrErr FsSt.wrote
    rw [if_neg ha, if_neg ha]
    have h1 : (S.tick.fileD i).2 = ⟨f, sy⟩ := hc
    have h2 : nget S.tick.names bes = k := h.now
    refine ⟨rfl, h.pend, h.up, ⟨h.full.1, ?_⟩, h.ne, h.now, ?_⟩
    · show numF (S.tick.sync1 i).files (nget S.dur name) = _
      rw [sync_num (S := S.tick) (s := bes) hi, h2, if_neg h.ne.2]
      exact h.full.2
    · show numF (S.tick.sync1 i).files k = _
      rw [sync_num (S := S.tick) (s := bes) hi, h2, if_pos rfl, h1]
structure R4 (S : FsSt) (name bes : ByteArray) (d f : List UInt8) (k : Nat) : Prop where
  pend : S.pend = [⟨dirOf bes, k, .put bes k⟩, ⟨dirOf name, k, .move bes name k⟩]
  up : S.down = false
  full : Full S (nget S.dur name) d
  file : Full S k f
theorem rename_r {K : Nat} {S : FsSt} (hg : FsGood K S) {name bes : ByteArray} {d f : List UInt8} {k : Nat} (h : R2 S name bes d f k f.length) (hb : bes ≠ name) (hv : validF (toL name) = true) :
    ((S.rename bes name).1 ≠ 0 ∧ Was (S.rename bes name).2 name d) ∨ ((S.rename bes name).1 = 0 ∧ R4 (S.rename bes name).2 name bes d f k) := by
  have hof : numF S.files (nget S.names bes) = some ⟨f, f.length⟩ := by rw [h.now]; exact h.file
  obtain ⟨i, hi, _⟩ := of_num hof
  have hh : S.has bes = true := by unfold FsSt.has; rw [hi]; rfl
  unfold FsSt.rename
  rw [if_neg (by rw [h.up]; simp), if_pos hh, if_pos hv]
  by_cases ha : S.armed = 1
  · left
    unfold FsSt.wrErr FsSt.wrote
    rw [if_pos ha, if_pos ha]
    exact ⟨by simp, R2.was hg h hb⟩
  · right
    unfold FsSt.wrErr FsSt.wrote
    rw [if_neg ha, if_neg ha]
    have e : S.tick.rename1 bes name = (S.tick.lose name).changes ⟨dirOf name, nget S.tick.names bes, .move bes name (nget S.tick.names bes)⟩ := by
      unfold FsSt.rename1
      rw [if_neg hb]
    have e2 : nget S.tick.names bes = k := h.now
    rw [e2] at e
    obtain ⟨l1, l2, _⟩ := lose_names S.tick name
    have l3 := lose_files S.tick name
    have l4 : (S.tick.lose name).dur = S.dur := by
      unfold FsSt.lose
      split <;> rfl
    have l5 := (lose_same S.tick name).2.1
    rw [e]
    refine ⟨rfl, ?_, ?_, ?_, ?_⟩
    · show (S.tick.lose name).pend ++ _ = _
      rw [l2]
      show S.pend ++ _ = _
      rw [h.pend]
      rfl
    · show (S.tick.lose name).down = false
      rw [l5]
      exact h.up
    · show nget (S.tick.lose name).dur name ≠ 0 ∧ numF (S.tick.lose name).files (nget (S.tick.lose name).dur name) = _
      rw [l3, l4]
      exact h.full
    · show k ≠ 0 ∧ numF (S.tick.lose name).files k = _
      rw [l3]
      exact ⟨h.ne.1, h.file⟩
theorem R4.wasis {K : Nat} {S : FsSt} (hg : FsGood K S) {name bes : ByteArray} {d f : List UInt8} {k : Nat} (h : R4 S name bes d f k) (hb : bes ≠ name) (hbs : bes.size ≤ 1048576) : WasIs S name d f := fun n => by
  unfold FsSt.crashD
  rw [h.pend]
  rcases take_two (⟨dirOf bes, k, .put bes k⟩ : Pend) ⟨dirOf name, k, .move bes name k⟩ (crashN S n) with e | e | e
  · rw [e]; exact .inl h.full
  · rw [e]
    left
    show Full S (nget (S.dur.put (sk bes) (nval k)) name) d
    rw [nget_put hg.dd.tidy.isMap, if_neg (Ne.symm hb)]
    exact h.full
  · rw [e]
    right
    show Full S (nget (((S.dur.put (sk bes) (nval k)).del (sk bes)).put (sk name) (nval k)) name) f
    rw [nget_move (hg.dd.put hbs h.file.1), if_pos rfl]
    exact h.file
theorem syncdir_r {K : Nat} {S : FsSt} (hg : FsGood K S) {name bes : ByteArray} {d f : List UInt8} {k : Nat} (h : R4 S name bes d f k) (hb : bes ≠ name) (hbs : bes.size ≤ 1048576) (hv : validF (toL name) = true) :
    ((S.syncdir (dirOf name)).1 ≠ 0 ∧ WasIs (S.syncdir (dirOf name)).2 name d f) ∨ ((S.syncdir (dirOf name)).1 = 0 ∧ Was (S.syncdir (dirOf name)).2 name f) := by
  unfold FsSt.syncdir
  rw [if_neg (by rw [h.up]; simp), if_neg (dir_valid hv)]
  by_cases ha : S.armed = 1
  · left
    unfold FsSt.wrErr FsSt.wrote
    rw [if_pos ha, if_pos ha]
    exact ⟨by simp, R4.wasis hg h hb hbs⟩
  · right
    unfold FsSt.wrErr FsSt.wrote
    rw [if_neg ha, if_neg ha]
    have hln : lastN S.tick.pend (dirOf name) S.tick.pend.length = 2 := by
      show lastN S.pend (dirOf name) S.pend.length = 2
      rw [h.pend]
      exact lastN_end [⟨dirOf bes, k, .put bes k⟩] ⟨dirOf name, k, .move bes name k⟩
    have hdu : nget (durOf S.tick.dur (S.tick.pend.take 2)) name = k := by
      show nget (durOf S.dur (S.pend.take 2)) name = _
      rw [h.pend]
      show nget (((S.dur.put (sk bes) (nval k)).del (sk bes)).put (sk name) (nval k)) name = _
      rw [nget_move (hg.dd.put hbs h.file.1), if_pos rfl]
    refine ⟨rfl, ?_⟩
    have e : S.tick.syncdir1 (dirOf name) = S.tick.settle 2 := by
      unfold FsSt.syncdir1
      rw [hln]
    rw [e]
    have hpn : (S.tick.settle 2).stepped.pend = [] := by
      show S.pend.drop 2 = []
      rw [h.pend]
      rfl
    intro n
    rw [crashD_nil hpn]
    show Full (S.tick.settle 2).stepped (nget (durOf S.tick.dur (S.tick.pend.take 2)) name) f
    have h5 := settle_num hg.tick 2 (s := name) (by rw [hdu]; exact h.file.1)
    rw [hdu] at h5 ⊢
    exact ⟨h.file.1, by show numF (S.tick.settle 2).files _ = _; rw [h5]; exact h.file.2⟩
end Go.Proofs.YtaolddgnannojaaGreatDoor
