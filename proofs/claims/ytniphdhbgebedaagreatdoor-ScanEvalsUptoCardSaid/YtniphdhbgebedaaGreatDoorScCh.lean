/-
  The parser of constraints: expressions in memory, chains of signs.
-/
import Derived.Test.YtniphdhbgebedaaGreatDoorScPr
namespace Go.Proofs.YtniphdhbgebedaaGreatDoor
open Go.RowKit

set_option linter.unusedSimpArgs false

set_option linter.unusedSimpArgs false

attribute [local go_sem] lt1 lt2 lt3 lt4 lt5 lt6

/-- an expression in memory; no block of it is b -/
def ExAt (w : World) (b : Nat) : Ex → Value → Prop
  | .tag t, v => ∃ p, v = .func (.func 162) #[] #[rP p] ∧ p ≠ b ∧ w.heap[p]? = some (.cells #[.string (mkS t)] 9 (0, 0))
  | .not x, v => ∃ p v', v = .func (.func 160) #[] #[rP p] ∧ p ≠ b ∧ w.heap[p]? = some (.cells #[v'] 73 (0, 0)) ∧ ExAt w b x v'
  | .and x y, v => ∃ p q v1 v2, v = .func (.func 139) #[] #[rP p, rP q] ∧ p ≠ b ∧ w.heap[p]? = some (.cells #[v1] 73 (0, 0)) ∧ ExAt w b x v1 ∧ q ≠ b ∧ w.heap[q]? = some (.cells #[v2] 73 (0, 0)) ∧ ExAt w b y v2
  | .or x y, v => ∃ p q v1 v2, v = .func (.func 109) #[] #[rP p, rP q] ∧ p ≠ b ∧ w.heap[p]? = some (.cells #[v1] 73 (0, 0)) ∧ ExAt w b x v1 ∧ q ≠ b ∧ w.heap[q]? = some (.cells #[v2] 73 (0, 0)) ∧ ExAt w b y v2
theorem ExAt.keep {w w' : World} {b : Nat} (hF : Fr [b] w w') : ∀ {x : Ex} {v : Value}, ExAt w b x v → ExAt w' b x v := by
  have hk : ∀ {p : Nat} {o : Obj}, p ≠ b → w.heap[p]? = some o → w'.heap[p]? = some o := fun hp ho => (hF.block _ (lt_of_heap ho) (by simp; exact hp)).trans ho
  intro x
  induction x with
  | tag t => rintro v ⟨p, h1, h2, h3⟩; exact ⟨p, h1, h2, hk h2 h3⟩
  | not x ih => rintro v ⟨p, v', h1, h2, h3, h4⟩; exact ⟨p, v', h1, h2, hk h2 h3, ih h4⟩
  | and x y ih1 ih2 => rintro v ⟨p, q, v1, v2, h1, h2, h3, h4, h5, h6, h7⟩; exact ⟨p, q, v1, v2, h1, h2, hk h2 h3, ih1 h4, h5, hk h5 h6, ih2 h7⟩
  | or x y ih1 ih2 => rintro v ⟨p, q, v1, v2, h1, h2, h3, h4, h5, h6, h7⟩; exact ⟨p, q, v1, v2, h1, h2, hk h2 h3, ih1 h4, h5, hk h5 h6, ih2 h7⟩
theorem ExAt.form {w : World} {b : Nat} {x : Ex} {v : Value} (h : ExAt w b x v) : ∃ f c, v = .func (.func f) #[] c := by
  cases x with
  | tag t => obtain ⟨p, rfl, _⟩ := h; exact ⟨_, _, rfl⟩
  | not x => obtain ⟨p, _, rfl, _⟩ := h; exact ⟨_, _, rfl⟩
  | and x y => obtain ⟨p, q, _, _, rfl, _⟩ := h; exact ⟨_, _, rfl⟩
  | or x y => obtain ⟨p, q, _, _, rfl, _⟩ := h; exact ⟨_, _, rfl⟩
def RsAt (w : World) (b : Nat) (res : Option Ex) (v : Value) : Prop := match res with
  | none => v = .nilFunc
  | some x => ExAt w b x v
def PrPost (w : World) (b : Nat) (k : PK) (s : List UInt8) (e : Ending) (w' : World) : Prop := ∃ v res r, e = .returned v ∧ Par k s res r ∧ PrAt w' b r ∧ Fr [b] w w' ∧ RsAt w' b res v
def botF : Nat → Nat
  | 1 => 138
  | _ => 108
theorem two_boxes (w : World) (a c : Obj) : ((w.alloc a).alloc c).heap[w.heap.size]? = some a ∧ ((w.alloc a).alloc c).heap[w.heap.size + 1]? = some c := by
  refine ⟨(Below.heap_alloc _ _ _ (by simp)).trans (heap_alloc_new _ _), ?_⟩
  have := heap_alloc_new (w.alloc a) c
  rwa [World.size_alloc] at this
theorem and1_any (w : World) (b : Nat) (x y : Ex) (v1 v2 : Value) (hb : b < w.heap.size) (h1 : ExAt w b x v1) (h2 : ExAt w b y v2) : Calls Tryz.prog 138 #[v1, v2] w fun e w' => ∃ v, e = .returned v ∧ Hid (Below w.heap.size w w') ∧ Hid (ExAt w' b (.and x y) v) := by
  obtain ⟨z, hz⟩ : ∃ z, (w.alloc (.cells #[v1] 73)).alloc (.cells #[v2] 73) = z := ⟨_, rfl⟩
  have hB : Below w.heap.size w z := by rw [← hz]; exact ((Below.refl _ w).alloc (Nat.le_refl _) _).alloc (by simp) _
  have hv : ExAt z b (.and x y) (.func (.func 139) #[] #[rP w.heap.size, rP (w.heap.size + 1)]) := by
    obtain ⟨e1, e2⟩ := two_boxes w (.cells #[v1] 73) (.cells #[v2] 73)
    rw [hz] at e1 e2
    exact ⟨_, _, v1, v2, rfl, by omega, e1, h1.keep (Fr.of_below hB _), by omega, e2, h2.keep (Fr.of_below hB _)⟩
  have HB := Lib.hid hB
  have HV := Lib.hid hv
  obtain ⟨f1, c1, rfl⟩ := h1.form
  obtain ⟨f2, c2, rfl⟩ := h2.form
  unfold rP at HV
  subst hz
  clear hB hv h1 h2
  go_enter Tryz.func138, Tryz.ntmps138
  go_wp2_with fail
  go_ret
  exact ⟨_, rfl, HB, HV⟩
theorem or1_any (w : World) (b : Nat) (x y : Ex) (v1 v2 : Value) (hb : b < w.heap.size) (h1 : ExAt w b x v1) (h2 : ExAt w b y v2) : Calls Tryz.prog 108 #[v1, v2] w fun e w' => ∃ v, e = .returned v ∧ Hid (Below w.heap.size w w') ∧ Hid (ExAt w' b (.or x y) v) := by
  obtain ⟨z, hz⟩ : ∃ z, (w.alloc (.cells #[v1] 73)).alloc (.cells #[v2] 73) = z := ⟨_, rfl⟩
  have hB : Below w.heap.size w z := by rw [← hz]; exact ((Below.refl _ w).alloc (Nat.le_refl _) _).alloc (by simp) _
  have hv : ExAt z b (.or x y) (.func (.func 109) #[] #[rP w.heap.size, rP (w.heap.size + 1)]) := by
    obtain ⟨e1, e2⟩ := two_boxes w (.cells #[v1] 73) (.cells #[v2] 73)
    rw [hz] at e1 e2
    exact ⟨_, _, v1, v2, rfl, by omega, e1, h1.keep (Fr.of_below hB _), by omega, e2, h2.keep (Fr.of_below hB _)⟩
  have HB := Lib.hid hB
  have HV := Lib.hid hv
  obtain ⟨f1, c1, rfl⟩ := h1.form
  obtain ⟨f2, c2, rfl⟩ := h2.form
  unfold rP at HV
  subst hz
  clear hB hv h1 h2
  go_enter Tryz.func108, Tryz.ntmps108
  go_wp2_with fail
  go_ret
  exact ⟨_, rfl, HB, HV⟩
theorem bot_any (l : Nat) (w : World) (b : Nat) (x y : Ex) (v1 v2 : Value) (hb : b < w.heap.size) (h1 : ExAt w b x v1) (h2 : ExAt w b y v2) : Calls Tryz.prog (botF l) #[v1, v2] w fun e w' => ∃ v, e = .returned v ∧ Hid (Below w.heap.size w w') ∧ Hid (ExAt w' b (opE l x y) v) := by
  match l with
  | 1 => exact and1_any w b x y v1 v2 hb h1 h2
  | 0 => exact or1_any w b x y v1 v2 hb h1 h2
  | n + 2 => exact or1_any w b x y v1 v2 hb h1 h2
theorem bot_enter (l : Nat) (args : Array Value) (x : World) : (callFunc (botF l) args).run Tryz.prog x = .ok (.enter (botF l) args) x := by
  match l with
  | 1 => exact call_ok _ _ Tryz.func138 (by kernel_rfl) (by kernel_rfl) args x
  | 0 => exact call_ok _ _ Tryz.func108 (by kernel_rfl) (by kernel_rfl) args x
  | n + 2 => exact call_ok _ _ Tryz.func108 (by kernel_rfl) (by kernel_rfl) args x
theorem sign_len {g s s1 : List UInt8} {t : Bool} (h : signP g s = (t, s1)) : s1.length ≤ s.length ∧ (t = true → g ≠ [] → s1.length < s.length) := by
  have hd : (skipB s).length ≤ s.length := by unfold skipB; exact (List.dropWhile_sublist _).length_le
  unfold signP at h
  split at h
  · rename_i hp
    cases h
    have hl : g.length ≤ (skipB s).length := (List.isPrefixOf_iff_prefix.1 hp).length_le
    rw [List.length_drop]
    refine ⟨by omega, fun _ hg => ?_⟩
    have := List.length_pos_iff.2 hg
    omega
  · cases h
    exact ⟨hd, fun h => by cases h⟩
theorem par_len {k : PK} {s : List UInt8} {a : Option Ex} {r : List UInt8} (h : Par k s a r) : r.length ≤ s.length := (tags_in h).1.length_le
/-! ### functions and nil -/
theorem neq73 (f : Fn) (a c : Array Value) (w : World) : (binOp .neq 73 (.func f a c) .nilFunc).run Tryz.prog w = .ok (.bool true) w := by kernel_rfl
theorem eql73 (f : Fn) (a c : Array Value) (w : World) : (binOp .eql 73 (.func f a c) .nilFunc).run Tryz.prog w = .ok (.bool false) w := by kernel_rfl
theorem neq73n (w : World) : (binOp .neq 73 .nilFunc .nilFunc).run Tryz.prog w = .ok (.bool false) w := by kernel_rfl
theorem eql73n (w : World) : (binOp .eql 73 .nilFunc .nilFunc).run Tryz.prog w = .ok (.bool true) w := by kernel_rfl
theorem neq62 (f : Fn) (a c : Array Value) (w : World) : (binOp .neq 62 (.func f a c) .nilFunc).run Tryz.prog w = .ok (.bool true) w := by kernel_rfl
theorem neq62n (w : World) : (binOp .neq 62 .nilFunc .nilFunc).run Tryz.prog w = .ok (.bool false) w := by kernel_rfl
theorem eql62 (f : Fn) (a c : Array Value) (w : World) : (binOp .eql 62 (.func f a c) .nilFunc).run Tryz.prog w = .ok (.bool false) w := by kernel_rfl
theorem eql62n (w : World) : (binOp .eql 62 .nilFunc .nilFunc).run Tryz.prog w = .ok (.bool true) w := by kernel_rfl
end Go.Proofs.YtniphdhbgebedaaGreatDoor
