/-
  slices.Clone of changes; cuts of them.
  Which files are used: counted in a map.
  maps.DeleteFunc of the files that nobody uses.
  A file system in memory: files struck.
-/
import Derived.Test.YtaolddgnannojaaGreatDoorG11
import Derived.Lib.BufferMore
import Derived.Lib.SlMapFilter
import Derived.Deep.LoopGhost
import Derived.Sort.MapsRangeIn
namespace Go.Proofs.YtaolddgnannojaaGreatDoor
open Go.RowKit Go.Maps

attribute [local go_sem] lt1 lt2 lt3 lt4 lt5 lt6

theorem build0C : ∀ w : World, (Instr.buildSlice 47 0 #[]).run Tryz.prog w = .ok (.slice (some ⟨w.heap.size, 0, none⟩) 0 0) (w.alloc (.cells #[] 63)) := fun _ => by kernel_rfl
def ClPost (w : World) (n : Nat) (xs : List Value) (e : Ending) (w' : World) : Prop := ∃ v, e = .returned v ∧ w'.ownsRow w.heap.size 63 3 v n xs ∧ Below w.heap.size w w'
set_option maxHeartbeats 4000000 in
set_option maxRecDepth 10000 in
theorem clone_any (w : World) (A : Option Addr) (c n : Nat) (xs : List Value) (h : Sl w A c n 3 xs) (hone : ∀ u ∈ xs, u.oneCell' = true) (hn : n ≤ 1099511627776) :
    Calls Tryz.prog 20 #[.slice A n c] w (ClPost w n xs) := by
  obtain ⟨iC, hiC, hzC, hsC, hbC⟩ := info_parts infoChange
  have hb0 := build0C
  have hnil : ∀ W, (binOp .eql 47 (.slice none 0 0) (.slice none 0 0)).run Tryz.prog W = .ok (.bool true) W := fun W => Lib.run_eql_slice_nil_nil W _ _ Tryz.underlying47
  have hnil2 : ∀ (W : World) (a : Addr) (n c : Nat), (binOp .eql 47 (.slice (some a) n c) (.slice none 0 0)).run Tryz.prog W = .ok (.bool false) W := fun W a n c => Lib.run_eql_slice_some_nil W a n c Tryz.underlying47
  cases A with
  | none =>
    obtain ⟨rfl, rfl⟩ := h.nil rfl
    have hx : xs = [] := List.eq_nil_of_length_eq_zero (by rw [h.len])
    go_enter Tryz.func20, Tryz.ntmps20
    go_wp2_with fail
    go_ret
    refine ⟨.slice none 0 0, rfl, ?_, Below.refl _ _⟩
    rw [hx]
    exact World.ownsRow_nil w _ _ _
  | some a =>
    have H := Lib.hid h
    clear h
    go_enter Tryz.func20, Tryz.ntmps20
    have hown : (w.alloc (.cells #[] 63)).ownsRow w.heap.size 63 3 (.slice (some ⟨w.heap.size, 0, none⟩) 0 0) 0 [] := World.ownsRow_lit (cs := #[]) (n := 0) w (Nat.le_refl _) (by unfold maxLen; omega) rfl
    have hnews : ∀ j u, xs[j]? = some u → (w.alloc (.cells #[] 63)).cell? (a.add j) = some u := fun j u hu => by
      have hj := (List.getElem?_eq_some_iff.1 hu).1
      rw [H.out.len] at hj
      obtain ⟨b, o, hab, hc⟩ := H.out.cells (by omega)
      cases hab
      rw [Addr.add_lit]
      exact Cells.alloc _ _ _ _ ((hc j hj).trans hu)
    go_wp2_with (first | (at_builtin; refine wpList_append_own _ rfl _ _ 47 rfl w.heap.size 63 iC (.agg #[.string ⟨#[]⟩, .int .i64 0, .nilFunc]) 3 32 Tryz.underlying47 hiC hzC hsC hbC rfl (by omega) _ 0 [] rfl hown a n c xs rfl H.out.len hnews hone (by unfold maxLen; omega) (by omega) (by simp) ?_))
    intro v' w' ho hgr _
    have hbl : Below w.heap.size w w' := ((Below.refl w.heap.size w).alloc (Nat.le_refl _) _).grown hgr (by simp) (by intro k hk; simp [Value.ownBlock] at hk; omega)
    obtain ⟨A', c', hv⟩ := own_formT ho
    have Hfin : Hid (ClPost w n xs (.returned (.slice A' n c')) w') := Lib.hid (by rw [← hv]; exact ⟨v', rfl, ho, hbl⟩)
    rw [hv]
    clear ho hgr hbl hv H hnews hown
    go_wp2_with fail
    go_ret
    exact Hfin.out
/-- where 'l[n:]' begins -/
def cutC (A : Option Addr) (c l : Nat) : Option Addr := if c = l then A else A.map (·.add (l * 3))
theorem slice_loC (A : Option Addr) (n c l : Nat) (h : l ≤ n) (w : World) : (Instr.slice 47 (.slice A n c) (some (.int .i64 (l : Int))) none none).run Tryz.prog w = .ok (.slice (cutC A c l) (n - l) (c - l)) w := by
  have e : Tryz.prog.elem 47 = 63 := by kernel_rfl
  have ht : Tryz.prog.underlying 47 = some (.slice (Tryz.prog.elem 47)) := by rw [e]; exact Tryz.underlying47
  obtain ⟨i0, hi0, hz0, hz1, hz2⟩ := info_parts infoChange
  rw [run_slice_l (w := w) (ht := ht) (kl := .i64) (h0 := by omega) (h1 := by omega), e]
  simp [sizeOf, typeInfo, hi0, hz1, sliced, cutC]
theorem slice_hiC (A : Option Addr) (n c l : Nat) (h : l ≤ c) (w : World) : (Instr.slice 47 (.slice A n c) none (some (.int .i64 (l : Int))) none).run Tryz.prog w = .ok (.slice A l c) w := by
  have e : Tryz.prog.elem 47 = 63 := by kernel_rfl
  have ht : Tryz.prog.underlying 47 = some (.slice (Tryz.prog.elem 47)) := by rw [e]; exact Tryz.underlying47
  obtain ⟨i0, hi0, hz0, hz1, hz2⟩ := info_parts infoChange
  rw [run_slice_h (w := w) (ht := ht) (kh := .i64) (h0 := by omega) (h2 := by omega), e]
  simp [sizeOf, typeInfo, hi0, hz1, sliced]
  intro _
  cases A with
  | none => rfl
  | some a => simp [Addr.add]
theorem Sl.cutC {w : World} {A : Option Addr} {c n l : Nat} {xs : List Value} (h : Sl w A c n 3 xs) (hl : l ≤ n) : Sl w (cutC A c l) (c - l) (n - l) 3 (xs.drop (l * 3)) := by
  have h1 := h.le
  have h2 := h.big
  refine ⟨by rw [List.length_drop, h.len]; omega, ?_, by omega, by omega, fun hn => ?_⟩
  · intro hA
    unfold Go.Proofs.YtaolddgnannojaaGreatDoor.cutC at hA
    split at hA
    · omega
    · cases A with
      | none => have := h.nil rfl; omega
      | some a => simp at hA
  · obtain ⟨b, o, rfl, hx⟩ := h.cells (by omega)
    refine ⟨b, o + l * 3, ?_, fun j hj => ?_⟩
    · unfold Go.Proofs.YtaolddgnannojaaGreatDoor.cutC
      rw [if_neg (by omega)]
      simp [Addr.add]
    · rw [Nat.add_assoc, hx (l * 3 + j) (by omega), List.getElem?_drop]
end Go.Proofs.YtaolddgnannojaaGreatDoor
namespace Go.Proofs.YtaolddgnannojaaGreatDoor
open Go.RowKit Go.Maps

attribute [local go_sem] lt1 lt2 lt3 lt4 lt5 lt6

theorem wf_le {m : Nat} (h : (Lit.int .i64 (m : Nat)).wf = true) : m ≤ 9223372036854775807 := by
  simp [Lit.wf, IntKind.min, IntKind.max, IntKind.signed, IntKind.bits] at h
  omega
def vals : Dm → List Nat
  | .map es => es.map fun p => natOf p.2
  | _ => []
theorem natOf_nval (n : Nat) : natOf (nval n) = n := rfl
theorem nval_inj {a b : Nat} (h : nval a = nval b) : a = b := by
  have := congrArg natOf h
  exact this
theorem vals_has {D : Dm} (hc : Canon D) (hn : Nats D) (k : Nat) : k ∈ vals D ↔ ∃ kl, has D kl = true ∧ D.atKey kl (nval 0) = nval k := by
  obtain ⟨es, rfl, hp, hk⟩ := hc
  have hap := apart_of_rising hp
  unfold vals
  simp only [List.mem_map]
  constructor
  · rintro ⟨p, hpm, rfl⟩
    have hat := WideAt.atKey_mem (nval 0) (hk p hpm) hap (d := p.2) hpm
    obtain ⟨m, hm⟩ := hn.2 p.1
    refine ⟨p.1, ?_, ?_⟩
    · rw [has_eq, List.any_eq_true]
      exact ⟨p, hpm, WideAt.sameKey_self (hk p hpm)⟩
    · rw [hat] at hm ⊢
      rw [hm, natOf_nval]
  · rintro ⟨kl, hh, hat⟩
    rw [has_eq, List.any_eq_true] at hh
    obtain ⟨p, hpm, hs⟩ := hh
    have e := WideAt.sameKey_eq hs
    have h2 := WideAt.atKey_mem (nval 0) (hk p hpm) hap (d := p.2) hpm
    rw [e, hat] at h2
    exact ⟨p, hpm, by rw [← h2]; rfl⟩
/-- the map that counts -/
def UsedAt (w : World) (um t : Nat) (f : Nat → Nat) : Prop :=
  ∃ D, w.ownsMap Tryz.prog 3 (plainElem Tryz.prog 3) um t D ∧ (∀ k : Nat, D.atKey (ik k) (nval 0) = nval (f k)) ∧ ∀ k, f k ≤ t
theorem UsedAt.made (w : World) : UsedAt (w.alloc (.map #[] 0)) w.heap.size 0 (fun _ => 0) :=
  ⟨_, World.ownsMap_made w _ _ _, fun _ => rfl, fun _ => Nat.le_refl _⟩
theorem UsedAt.run {w : World} {um t : Nat} {f : Nat → Nat} (h : UsedAt w um t f) (k : Nat) (hk : k ≤ 9223372036854775807) :
    (Instr.lookup 91 (.map (some um)) (.int .i64 (k : Nat)) false).run Tryz.prog w = .ok (.int .i64 (f k : Nat)) w := by
  obtain ⟨D, h1, h2, _⟩ := h
  obtain ⟨c, hr, hat, _⟩ := h1.lookup_int intK Tryz.underlying91 Tryz.underlying3 (zeroInt w) (keyOf_int_mk (a := (k : Int)) Tryz.underlying3 (WalkArith.wf_i64 (by omega)))
  have h3 : (DataW.lit (Lit.int .i64 c) : Dm) = nval (f k) := hat.symm.trans (h2 k)
  simp only [nval, DataW.lit.injEq, Lit.int.injEq, true_and] at h3
  rw [hr, h3]
theorem UsedAt.kept {w w' : World} {um t : Nat} {f : Nat → Nat} (h : UsedAt w um t f) {S : List Nat} (hf : Fr S w w') (hu : um ∉ S) : UsedAt w' um t f := by
  obtain ⟨D, h1, h2, h3⟩ := h
  exact ⟨D, map_kept h1 hf hu, h2, h3⟩
def bump (f : Nat → Nat) (k : Nat) : Nat → Nat := fun j => if j = k then f k + 1 else f j
theorem UsedAt.lt {w : World} {um t : Nat} {f : Nat → Nat} (h : UsedAt w um t f) : um < w.heap.size := by
  obtain ⟨D, h1, _⟩ := h
  exact h1.lt
theorem wpList_bump {w : World} {ops : Array Oper} {rest : List Oper} {o : Oper} {a : Act} {Q : Exit → Act → World → Prop} (hgd : o.guard = none) (m x v : Operand)
    (ho : o.op = .mapUpdate 91 m x v) (um t k : Nat) (f : Nat → Nat) (hm : a.eval m = .map (some um)) (hx : a.eval x = .int .i64 (k : Nat)) (hv : a.eval v = .int .i64 ((f k : Int) + 1)) (hk : k ≤ 9223372036854775807) (h : UsedAt w um t f) (ht : t ≤ 10995116277760)
    (hK : ∀ w', UsedAt w' um (t + 1) (bump f k) → w.grownBy w' (some um) → wpList Tryz.prog ops Q rest (a.put o.dst undef) w') : wpList Tryz.prog ops Q (o :: rest) a w := by
  obtain ⟨D, h1, h2, h3⟩ := h
  have hfk := h3 k
  refine wpList_mapUpdate_own w hgd m x v 91 ho 3 3 intK Tryz.underlying91 (plainElem Tryz.prog 3) um t D hm h1 (by unfold maxLen; omega) (.int .i64 (k : Nat)) (.int .i64 ((f k : Int) + 1)) (ik k) hx hv (keyOf_int_mk (a := (k : Int)) Tryz.underlying3 (WalkArith.wf_i64 (by omega))) (nval (f k + 1)) [] (plainNat (f k + 1) (by omega)) fun w' ho' hg => ?_
  refine hK w' ⟨_, ho', fun j => ?_, fun j => ?_⟩ hg
  · unfold bump
    by_cases e : j = k
    · subst e
      rw [if_pos rfl]
      exact atKey_put_same h1.isMap (by trivial) _ _
    · rw [if_neg e]
      rw [atKey_put_other (by unfold ik; simp; omega)]
      exact h2 j
  · unfold bump
    split
    · omega
    · have := h3 j; omega
/-- which numbers have been counted, while a map is run through -/
def Counted (L0 : List Nat) (D : Dm) (left : Lit → Bool) (f : Nat → Nat) : Prop :=
  ∀ k, f k ≠ 0 ↔ (k ∈ L0 ∨ ∃ kl, has D kl = true ∧ left kl = false ∧ D.atKey kl (nval 0) = nval k)
theorem Counted.start {L0 : List Nat} {f : Nat → Nat} (h : ∀ k, f k ≠ 0 ↔ k ∈ L0) (D : Dm) : Counted L0 D (has D) f := fun k => by
  rw [h k]
  constructor
  · exact .inl
  · rintro (h | ⟨kl, h1, h2, _⟩)
    · exact h
    · rw [h1] at h2; cases h2
theorem bump_ne (f : Nat → Nat) (k j : Nat) : bump f k j ≠ 0 ↔ (f j ≠ 0 ∨ j = k) := by
  unfold bump
  split
  · rename_i h; simp [h]
  · rename_i h; simp [h]
theorem Counted.step {L0 : List Nat} {D : Dm} {left : Lit → Bool} {f : Nat → Nat} (h : Counted L0 D left f) {kl : Lit} {m : Nat} (hat : ∀ zd, D.atKey kl zd = nval m) :
    Counted L0 D (fun z => left z && !z.sameKey kl) (bump f m) := fun k => by
  rw [bump_ne, h k]
  have hh := has_true_of_atKey hat
  constructor
  · rintro ((h1 | ⟨k2, h1, h2, h3⟩) | rfl)
    · exact .inl h1
    · exact .inr ⟨k2, h1, by simp [h2], h3⟩
    · have hk : kl.sameKey kl = true := by
        have := hh
        cases D with
        | map es =>
          rw [has_eq, List.any_eq_true] at this
          obtain ⟨p, _, hp⟩ := this
          have e := WideAt.sameKey_eq hp
          rw [e] at hp
          exact hp
        | _ => cases this
      exact .inr ⟨kl, hh, by simp [hk], hat _⟩
  · rintro (h1 | ⟨k2, h1, h2, h3⟩)
    · exact .inl (.inl h1)
    · simp only [Bool.and_eq_false_iff, Bool.not_eq_false'] at h2
      rcases h2 with h2 | h2
      · exact .inl (.inr ⟨k2, h1, h2, h3⟩)
      · have e := WideAt.sameKey_eq h2
        subst e
        rw [hat] at h3
        exact .inr (nval_inj h3).symm
theorem Counted.end_ {L0 : List Nat} {D : Dm} {left : Lit → Bool} {f : Nat → Nat} (h : Counted L0 D left f) (hl : ∀ kl, left kl = false) (hc : Canon D) (hn : Nats D) : ∀ k, f k ≠ 0 ↔ k ∈ L0 ++ vals D := fun k => by
  rw [h k, List.mem_append, vals_has hc hn]
  constructor
  · rintro (h1 | ⟨kl, h1, _, h3⟩)
    · exact .inl h1
    · exact .inr ⟨kl, h1, h3⟩
  · rintro (h1 | ⟨kl, h1, h3⟩)
    · exact .inl h1
    · exact .inr ⟨kl, h1, hl kl, h3⟩
/-! ### settle -/
def durOf (D : Dm) (l : List Pend) : Dm := l.foldl (fun D p => p.chg.on D) D
theorem durOf_snoc (D : Dm) (l : List Pend) (p : Pend) : durOf D (l ++ [p]) = p.chg.on (durOf D l) := by simp [durOf]
theorem Nats.durOf {D : Dm} (h : Nats D) : ∀ l : List Pend, Nats (durOf D l) := by
  intro l
  induction l generalizing D with
  | nil => exact h
  | cons p l ih => exact ih (h.chg p.chg)
def usedL (N D : Dm) (P : List Pend) : List Nat := vals N ++ vals D ++ P.map (·.file)
def FsSt.settle (S : FsSt) (n : Nat) : FsSt :=
  { S with dur := durOf S.dur (S.pend.take n), pend := S.pend.drop n, files := S.files.filter fun e => (usedL S.names (durOf S.dur (S.pend.take n)) (S.pend.drop n)).contains e.1 }
end Go.Proofs.YtaolddgnannojaaGreatDoor
namespace Go.Proofs.YtaolddgnannojaaGreatDoor
open Go.RowKit Go.Maps

attribute [local go_sem] lt1 lt2 lt3 lt4 lt5 lt6

def litNat : Lit → Nat
  | .int _ a => a.toNat
  | _ => 0
def unusedB (f : Nat → Nat) (kl : Lit) (_ : Dm) : Bool := decide (f (litNat kl) = 0)
theorem settle1_any (w : World) (bu um t : Nat) (f : Nat → Nat) (hu : UsedAt w um t f) (hbu : w.heap[bu]? = some (.cells #[.map (some um)] 91 (0, 0))) (n : Nat) (hn : n ≤ 9223372036854775807) (v : Value) :
    Calls Tryz.prog 69 #[.int .i64 (n : Nat), v, .pointer (some ⟨bu, 0, none⟩)] w fun e w' => e = .returned (.bool (decide (f n = 0))) ∧ w' = w := by
  have hrun := hu.run n hn
  have k0 := box_cell hbu
  clear hu hbu
  go_enter Tryz.func69, Tryz.ntmps69
  go_wp2_with fail
  go_ret
  refine ⟨bool_ret ?_, rfl⟩
  rw [Bool.eq_iff_iff]
  simp
theorem enter_t1 (args : Array Value) (w : World) : (callFunc 69 args).run Tryz.prog w = .ok (.enter 69 args) w := Go.MuLone.run_callFunc_enter Tryz.func69 (by kernel_rfl) rfl args w
theorem ptrInv : ∀ (v : Value) (y : Dm × List MemPlace), RPtr v = some y → ∃ c, v = Value.pointer c := by
  intro v y h
  unfold RPtr at h
  split at h
  · exact ⟨_, rfl⟩
  · exact ⟨_, rfl⟩
  · cases h
theorem intKInv : ∀ key kl, keyOf Tryz.prog 3 key = some kl → ∃ x, key = Value.int .i64 x := fun _ _ h => by
  obtain ⟨x, rfl, _⟩ := Maps.keyOf_int_inv Tryz.underlying3 h
  exact ⟨x, rfl⟩
def DelPost (w : World) (b n : Nat) (D : Dm) (f : Nat → Nat) (e : Ending) (w' : World) : Prop := e = .returned (.tuple #[]) ∧ w'.ownsMap Tryz.prog 3 RPtr b n (Lib.deleteFuncD (unusedB f) D) ∧ w.grownBy w' (some b)
def DelRel (w : World) (b n : Nat) (es0 : List (Lit × Dm)) (f : Nat → Nat) (r : Nat) (wr : World) : Prop :=
  ∃ (left : Lit → Bool) (cnt : Nat), wr.ranges Tryz.prog 3 RPtr b r n (Fk (unusedB f) es0 left) left cnt ∧ w.grownBy wr (some b)
set_option maxHeartbeats 4000000 in
set_option maxRecDepth 100000 in
theorem del_any (w : World) (b n : Nat) (D : Dm) (bu um t : Nat) (f : Nat → Nat) (hown : w.ownsMap Tryz.prog 3 RPtr b n D) (hu : UsedAt w um t f) (hbu : w.heap[bu]? = some (.cells #[.map (some um)] 91 (0, 0)))
    (h1 : um ≠ b) (h2 : bu ≠ b) (hk : ∀ kl, has D kl = true → ∃ n : Nat, kl = ik n) :
    Calls Tryz.prog 68 #[.map (some b), .func (.func 69) #[] #[.pointer (some ⟨bu, 0, none⟩)]] w (DelPost w b n D f) := by
  obtain ⟨es0, rfl, hap, hkeys⟩ := hown.entries intK
  have hk0 : ∀ p ∈ es0, ∃ n : Nat, p.1 = ik n := fun p hp => hk p.1 (by
    rw [has_eq, List.any_eq_true]
    exact ⟨p, hp, WideAt.sameKey_self (hkeys p hp)⟩)
  have eg := enter_t1
  have Hu := Lib.hid hu
  have Hbu := Lib.hid hbu
  have Hk := Lib.hid hk0
  have hlb := hown.lt
  clear hu hbu hk hk0
  go_enter Tryz.func68, Tryz.ntmps68
  go_wp2_with (first
    | (at_range; refine wpList_range_own _ rfl _ 45 rfl 3 55 intK Tryz.underlying45 RPtr b n _ rfl hown ?_; intro w0 hrg0 hg0 hs0)
    | go_in)
  go_frame
  have Hrel0 : Hid (DelRel w b n es0 f w.heap.size w0) := Lib.hid ⟨_, _, by rw [Fk_start hkeys]; exact hrg0, hg0.but _⟩
  clear hrg0 hg0 hs0
  go_loopw [4, 5] (fun _ _ wr => DelRel w b n es0 f w.heap.size wr) (fun _ _ wr => wr.rangeLeft b w.heap.size)
  case atStart => exact Hrel0.out
  case round =>
    obtain ⟨left, cnt, hrg, hgw⟩ := hrel
    have HL := Lib.hid hrg.left_eq
    go_wp2_with (first
      | (at_next; refine wpList_next_ranges _ rfl _ rfl 3 intK RPtr (Value.int .i64) Value.pointer intKInv ptrInv b w.heap.size n _ _ _ rfl hrg ?_ ?_)
      | go_in)
    · intro _ hl0
      have Hfin : Hid (DelPost w b n (.map es0) f (.returned (.tuple #[])) wr) := Lib.hid ⟨rfl, by rw [← Fk_end hl0]; exact hrg.owns, hgw⟩
      clear hrg hgw
      go_wp2_with fail
      go_end0
      exact Hfin.out
    · intro x c kl yd yp w1 cnt1 hkey hlx hv hat hrg1 hlt hg1 hs1 hen
      have hgw1 := hgw.andThen hg1 (fun j hj => by cases hj; exact Or.inl (Nat.le_refl _))
      have hu1 := Hu.out.kept (Fr.of_grown hgw1) (by simpa using h1)
      have hbu1 := (hgw1.block _ (lt_of_heap Hbu.out) (by simpa using h2)).trans Hbu.out
      have hcome := has_true_of_atKey hat
      obtain ⟨m, hm⟩ : ∃ m : Nat, kl = ik m := by
        unfold Fk at hcome
        rw [has_eq, List.any_eq_true] at hcome
        obtain ⟨p, hp, hs⟩ := hcome
        rw [← WideAt.sameKey_eq hs]
        exact Hk.out p (List.mem_filter.1 hp).1
      obtain ⟨x', ex, ek, hwf⟩ := Maps.keyOf_int_inv Tryz.underlying3 hkey
      cases ex
      have hxm : x = (m : Int) := by
        rw [hm] at ek
        unfold ik at ek
        simpa using ek.symm
      subst hxm
      have hm9 : m ≤ 9223372036854775807 := wf_le hwf
      have hc := settle1_any w1 bu um t f hu1 hbu1 m hm9 (.pointer c)
      have hbl := hrg1.owns.lt
      have hrl := hrg1.lt
      have Hc := Lib.hid hc
      have Hgw1 := Lib.hid hgw1
      clear hc hu1 hbu1 hgw hgw1 hg1 hs1 hcome hwf ek
      have hpd : unusedB f kl yd = decide (f m = 0) := by rw [hm]; rfl
      have Hpd := Lib.hid hpd
      clear hpd
      by_cases hp : f m = 0
      · have hpt : unusedB f kl yd = true := by rw [Hpd.out]; simpa using hp
        have Hfk := Lib.hid (Fk_struck hap (intK.key hkey) hlx hpt hat)
        have hd : decide (f m = 0) = true := by simpa using hp
        rw [hd] at Hc
        clear hd hpt hat hlx hrg
        have Hrg1 := Lib.hid hrg1
        clear hrg1
        go_wp2_with (first
          | (go_at_fn 69; refine Hc.out.mono ?_; rintro e w2 ⟨rfl, rfl⟩)
          | (at_delete; refine wpList_delete_ranges _ rfl _ _ 45 3 rfl 55 intK Tryz.underlying45 RPtr b w.heap.size n _ _ _ rfl Hrg1.out _ _ rfl hkey ?_; intro w3 cnt3 hrg3 hle hturn; go_frame)
          | go_in)
        rw [strike_twice] at hrg3
        go_roundw
        case rel => exact ⟨_, cnt3, by rw [← Hfk.out]; exact hrg3, Hgw1.out.andThen hturn.grown (fun j hj => by cases hj; exact Or.inr rfl)⟩
        case measure => rw [hrg3.left_eq, HL.out]; omega
      · have hpt : unusedB f kl yd = false := by rw [Hpd.out]; simpa using hp
        have Hfk := Lib.hid (Fk_stays hap (intK.key hkey) hlx hpt hat)
        have hd : decide (f m = 0) = false := by simpa using hp
        rw [hd] at Hc
        have Hfin : Hid (DelRel w b n es0 f w.heap.size w1) := Lib.hid ⟨_, cnt1, by rw [← Hfk.out]; exact hrg1, Hgw1.out⟩
        have Hms : Hid (w1.rangeLeft b w.heap.size < wr.rangeLeft b w.heap.size) := Lib.hid (by rw [hrg1.left_eq, HL.out]; exact hlt)
        clear hd hpt hat hlx hrg1 hrg
        go_wp2_with (first
          | (go_at_fn 69; refine Hc.out.mono ?_; rintro e w2 ⟨rfl, rfl⟩)
          | go_in)
        go_roundw
        case rel => exact Hfin.out
        case measure => exact Hms.out
end Go.Proofs.YtaolddgnannojaaGreatDoor
namespace Go.Proofs.YtaolddgnannojaaGreatDoor
open Go.RowKit Go.Maps

attribute [local go_sem] lt1 lt2 lt3 lt4 lt5 lt6

def keepFl (q : Nat → Bool) (fs : List (Nat × FileC)) (fl : List (Nat × Value)) : List (Nat × Value) := ((fs.zip fl).filter fun p => q p.1.1).map (·.2)
theorem zip_fst : ∀ {fs : List (Nat × FileC)} {fl : List (Nat × Value)}, fs.length = fl.length → (fs.zip fl).map (·.1) = fs
  | [], [], _ => rfl
  | e :: fs, f :: fl, h => by simp [zip_fst (fs := fs) (fl := fl) (by simpa using h)]
  | [], _ :: _, h => by simp at h
  | _ :: _, [], h => by simp at h
theorem zip_snd : ∀ {fs : List (Nat × FileC)} {fl : List (Nat × Value)}, fs.length = fl.length → (fs.zip fl).map (·.2) = fl
  | [], [], _ => rfl
  | e :: fs, f :: fl, h => by simp [zip_snd (fs := fs) (fl := fl) (by simpa using h)]
  | [], _ :: _, h => by simp at h
  | _ :: _, [], h => by simp at h
theorem zip_back : ∀ l : List ((Nat × FileC) × (Nat × Value)), (l.map (·.1)).zip (l.map (·.2)) = l
  | [] => rfl
  | p :: l => by simp [zip_back l]
theorem keep_fst {q : Nat → Bool} {fs : List (Nat × FileC)} {fl : List (Nat × Value)} (h : fs.length = fl.length) : ((fs.zip fl).filter fun p => q p.1.1).map (·.1) = fs.filter fun e => q e.1 := by
  have := List.filter_map (f := fun p : (Nat × FileC) × (Nat × Value) => p.1) (l := fs.zip fl) (p := fun e => q e.1)
  rw [zip_fst h] at this
  rw [this]
  rfl
theorem all2_zip {Q : Nat × FileC → Nat × Value → Prop} : ∀ {fs : List (Nat × FileC)} {fl : List (Nat × Value)}, All2 Q fs fl → ∀ p ∈ fs.zip fl, Q p.1 p.2
  | [], [], _, p, hp => by simp at hp
  | e :: fs, f :: fl, h, p, hp => by
    simp only [List.zip_cons_cons, List.mem_cons] at hp
    rcases hp with rfl | hp
    · exact h.1
    · exact all2_zip h.2 p hp
  | [], _ :: _, h, _, _ => h.elim
  | _ :: _, [], h, _, _ => h.elim
theorem all2_of {Q : Nat × FileC → Nat × Value → Prop} : ∀ {l : List ((Nat × FileC) × (Nat × Value))}, (∀ p ∈ l, Q p.1 p.2) → All2 Q (l.map (·.1)) (l.map (·.2))
  | [], _ => trivial
  | p :: l, h => ⟨h p (by simp), all2_of fun x hx => h x (by simp [hx])⟩
theorem sub_flat {α : Type} (B : α → List Nat) : ∀ {l m : List α}, l.Sublist m → (l.flatMap B).Sublist (m.flatMap B)
  | _, _, .slnil => .slnil
  | _, _, .cons a h => by
    rw [List.flatMap_cons]
    exact (sub_flat B h).trans (List.sublist_append_right _ _)
  | _, _, .cons_cons a h => by
    rw [List.flatMap_cons, List.flatMap_cons]
    exact List.Sublist.append (List.Sublist.refl _) (sub_flat B h)
theorem fD_struck {f : Nat → Nat} {q : Nat → Bool} {fs : List (Nat × FileC)} {fl : List (Nat × Value)} (h : fs.length = fl.length) (hq : ∀ n, f n ≠ 0 ↔ q n = true) :
    Lib.deleteFuncD (unusedB f) (fD fs fl) = fD (fs.filter fun e => q e.1) (keepFl q fs fl) := by
  unfold Lib.deleteFuncD fD keepFl
  simp only
  rw [← keep_fst h, zip_back, List.filter_map]
  congr 2
  apply List.filter_congr
  intro p _
  have h1 : litNat (ik p.1.1) = p.1.1 := rfl
  simp only [Function.comp, unusedB, h1]
  cases hb : q p.1.1 with
  | true =>
    have := (hq p.1.1).2 hb
    simp [this]
  | false =>
    have : ¬ f p.1.1 ≠ 0 := fun hh => by rw [(hq p.1.1).1 hh] at hb; cases hb
    simp at this
    simp [this]
theorem FsAt.struck {w w' : World} {M : FsMem} {S : FsSt} {f : Nat → Nat} {q : Nat → Bool} {n : Nat} (h : FsAt w M S) (hf : Fr [M.fm] w w') (hq : ∀ n, f n ≠ 0 ↔ q n = true)
    (hown : w'.ownsMap Tryz.prog 3 RPtr M.fm n (Lib.deleteFuncD (unusedB f) (fD S.files M.fl))) :
    FsAt w' { M with fl := keepFl q S.files M.fl } { S with files := S.files.filter fun e => q e.1 } ∧ Gr M w { M with fl := keepFl q S.files M.fl } w' := by
  have hnd := h.nodup
  have hlen := h.each.length
  have hsub : (keepFl q S.files M.fl).Sublist M.fl := by
    have := (List.filter_sublist (p := fun p : (Nat × FileC) × (Nat × Value) => q p.1.1) (l := S.files.zip M.fl)).map (·.2)
    rwa [zip_snd hlen] at this
  have hos : (FsMem.own { M with fl := keepFl q S.files M.fl }).Sublist M.own := by
    rw [FsMem.own_fb, FsMem.own_fb]
    exact List.Sublist.append (List.Sublist.refl _) (sub_flat fblks hsub)
  have hown2 : M.own = [M.fb] ++ [M.fm] ++ (M.nm :: M.dm :: (M.pv.ownBlock.toList ++ M.fl.flatMap fun f => f.1 :: f.2.ownBlock.toList)) := by simp [FsMem.own]
  have hfm : Frm [M.fm] w w' := ⟨hf, fun k hk _ => h.mays k (by rw [List.mem_singleton.1 hk]; simp [FsMem.own])⟩
  have ho : ∀ k, (k ∈ [M.fb] ∨ k ∈ (M.nm :: M.dm :: (M.pv.ownBlock.toList ++ M.fl.flatMap fun f => f.1 :: f.2.ownBlock.toList))) → k ∉ [M.fm] := by
    intro k hk hh
    have hh := List.mem_singleton.1 hh
    subst hh
    have hnd2 := hnd
    rw [hown2, List.append_assoc, List.nodup_append] at hnd2
    obtain ⟨hX, hBY, hd⟩ := hnd2
    rcases hk with hk | hk
    · exact hd _ hk _ (by simp) rfl
    · exact (List.nodup_cons.1 hBY).1 hk
  obtain ⟨cs, p1, p2⟩ := h.pend
  rw [fD_struck hlen hq] at hown
  have hsz : Maps.size (fD (S.files.filter fun e => q e.1) (keepFl q S.files M.fl)) = (S.files.filter fun e => q e.1).length := by
    unfold fD keepFl
    rw [← keep_fst hlen, zip_back]
    show (List.map _ _).length = _
    simp
  have hown := own_size hown
  rw [hsz] at hown
  refine ⟨⟨(hf.block _ (lt_of_heap h.blk) (ho _ (.inl (by simp)))).trans h.blk, map_kept h.names hf (ho _ (.inr (by simp))), map_kept h.dur hf (ho _ (.inr (by simp))), h.natN, h.natD, hown, ?_, ⟨cs, p1.mono fun _ _ h => h.kept hfm, row_kept p2 hf fun b hb => ho _ (.inr (by simp [hb]))⟩, hnd.sublist hos⟩, ⟨hf.more fun k hk => by rw [List.mem_singleton.1 hk]; simp [FsMem.own], fun k hk => .inl (hos.subset hk), rfl⟩⟩
  show All2 (FileAt w') (S.files.filter fun e => q e.1) (keepFl q S.files M.fl)
  rw [← keep_fst hlen]
  refine all2_of fun p hp => ?_
  have hpz := (List.mem_filter.1 hp).1
  have hpm : p.2 ∈ M.fl := by
    have := List.mem_map_of_mem (f := fun p : (Nat × FileC) × (Nat × Value) => p.2) hpz
    rwa [zip_snd hlen] at this
  refine (all2_zip h.each p hpz).kept hf (ho _ (.inr ?_)) fun b hb => ho _ (.inr ?_)
  · simp only [List.mem_cons, List.mem_append]
    exact .inr (.inr (.inr (List.mem_flatMap.2 ⟨p.2, hpm, by simp⟩)))
  · simp only [List.mem_cons, List.mem_append]
    exact .inr (.inr (.inr (List.mem_flatMap.2 ⟨p.2, hpm, by simp [hb]⟩)))
theorem fD_keys (fs : List (Nat × FileC)) (fl : List (Nat × Value)) : ∀ kl, has (fD fs fl) kl = true → ∃ n : Nat, kl = ik n := by
  intro kl h
  unfold fD at h
  rw [has_eq, List.any_eq_true] at h
  obtain ⟨p, hp, hs⟩ := h
  rw [← WideAt.sameKey_eq hs]
  obtain ⟨x, _, rfl⟩ := List.mem_map.1 hp
  exact ⟨_, rfl⟩
end Go.Proofs.YtaolddgnannojaaGreatDoor
