/-
  A network as it lies in memory: its block, its three maps.
-/
import Derived.Test.YtpblaclhfcomeaaKindMap
import Derived.Test.YtpblaclhfcomeaaLocks
import Derived.Conc.MuLone
namespace Go.Proofs.Ytpblaclhfcomeaa
open Go.RowKit Go.Maps Go.MuLone

/-- a fault as it was laid -/
structure PFault where
  u : ByteArray
  att : Int
  kind : Int
  n : Int
  data : List UInt8
/-- what a network knows -/
structure NetSt where
  pages : List (ByteArray × List UInt8)
  faults : List ((ByteArray × Int) × PFault)
  asked : List (ByteArray × Nat)

def StrKey (s : ByteArray) : Value := .string s
def ReqKey (p : ByteArray × Int) : Value := .agg #[.string p.1, .int .i64 p.2]
theorem strKey_inj (a b : ByteArray) (h : StrKey a = StrKey b) : a = b := by unfold StrKey at h; simpa using h
theorem reqKey_inj (a b : ByteArray × Int) (h : ReqKey a = ReqKey b) : a = b := by
  unfold ReqKey at h
  simp at h
  exact Prod.ext h.1 h.2

theorem str_law : Keyed Try.prog 9 := string_keyed Try.underlying9
theorem str_key {s : ByteArray} (h : s.size ≤ maxLen) : keyOf Try.prog 9 (StrKey s) = some (.string s.data.toList) := Go.WideMaps.keyOf_string_mk Try.underlying9 h
theorem laidOut : laidOutB Try.prog = true := by kernel_rfl
theorem req_row : 86 < Try.prog.types.size := of_decide_eq_true (by kernel_rfl)
theorem req_law : Keyed Try.prog 86 := Keyed.of_law (deep_law_laid laidOut (m := 2) (by omega) req_row (by kernel_rfl) (by kernel_rfl))
theorem req_formed (s : ByteArray) (k : Int) : (Value.agg #[.string s, .int .i64 k]).formed Try.prog 86 = true := by
  have e : Try.prog.cellsOf 86 = 2 := by kernel_rfl
  simp [Value.formed, Try.underlying86, e]
theorem req_key {p : ByteArray × Int} (h : p.1.size ≤ maxLen) (hk : -9223372036854775808 ≤ p.2 ∧ p.2 ≤ 9223372036854775807) : ∃ l, keyOf Try.prog 86 (ReqKey p) = some l := by
  have h1 : Try.prog.keyType 86 = true := by kernel_rfl
  have h2 := req_formed p.1 p.2
  have hw : (Lit.int .i64 p.2).wf = true := WalkArith.wf_i64 hk
  have c1 : Try.prog.cellsOf 86 = 2 := by kernel_rfl
  have c2 : Try.prog.cellsOf 9 = 1 := by kernel_rfl
  have c3 : Try.prog.cellsOf 3 = 1 := by kernel_rfl
  obtain ⟨m, hm⟩ : ∃ m, Try.prog.types.size + 1 = m + 2 := ⟨Try.prog.types.size - 1, by have := req_row; omega⟩
  unfold keyOf ReqKey
  rw [Try.underlying86]
  simp only [h1, h2, Bool.and_self, if_true]
  rw [hm]
  simp [Program.keyLits, c1, c2, c3, h, hw, Try.underlying86, Try.underlying9, Try.underlying3, Value.cells]

/-- a row of bytes of its own -/
def Row8 (w : World) (g : Nat) (l : List UInt8) : Prop := w.heap[g]? = some (.cells (u8s l).toArray 5 (0, 0))
/-- all rows of bytes are there still -/
def Rows8 (w w' : World) : Prop := ∀ g l, Row8 w g l → Row8 w' g l
theorem Rows8.trans {a b c : World} (h : Rows8 a b) (k : Rows8 b c) : Rows8 a c := fun g l hh => k g l (h g l hh)
theorem Rows8.of_fr {S : List Nat} {w w' : World} (h : Fr S w w') (hS : ∀ k, k ∈ S → ∀ l, ¬ Row8 w k l) : Rows8 w w' := fun g l hg =>
  (h.block g (lt_of_heap hg) fun hh => hS g hh l hg).trans hg
theorem Row8.bs {w : World} {g : Nat} {l : List UInt8} (h : Row8 w g l) (hl : l.length ≤ 140737488351232) : Bs w (some ⟨g, 0, none⟩) l.length l :=
  Bs.of_block h (Nat.le_refl _) (by unfold maxLen; omega)

def RPage (w : World) (v : Value) (d : List UInt8) : Prop := d.length ≤ 140737488351232 ∧ ∃ g, v = .slice (some ⟨g, 0, none⟩) d.length d.length ∧ Row8 w g d
def RFault (w : World) (v : Value) (f : PFault) : Prop := f.data.length ≤ 140737488351232 ∧ 0 ≤ f.n ∧ f.n ≤ 9223372036854775807 ∧ 1 ≤ f.kind ∧ f.kind ≤ 7 ∧
  ∃ g, v = fV f.u f.att f.kind f.n (some ⟨g, 0, none⟩) f.data.length f.data.length ∧ Row8 w g f.data
def RAsk (v : Value) (n : Nat) : Prop := v = .int .i64 n
theorem RPage.keep {w w' : World} {v : Value} {d : List UInt8} (h : RPage w v d) (hr : Rows8 w w') : RPage w' v d := by
  obtain ⟨h1, g, h2, h3⟩ := h
  exact ⟨h1, g, h2, hr g d h3⟩
theorem RFault.keep {w w' : World} {v : Value} {f : PFault} (h : RFault w v f) (hr : Rows8 w w') : RFault w' v f := by
  obtain ⟨h1, h2, h3, h4, h5, g, h6, h7⟩ := h
  exact ⟨h1, h2, h3, h4, h5, g, h6, hr g _ h7⟩

structure NetAt (w : World) (nb pb fb ab : Nat) (s : Int) (S : NetSt) : Prop where
  blk : w.heap[nb]? = some (.cells #[.int .i32 s, .int .u32 0, .map (some pb), .map (some fb), .map (some ab)] 81 (0, 0))
  pages : ∃ o, w.heap[pb]? = some o ∧ TMap Try.prog 9 o StrKey (RPage w) S.pages
  faults : ∃ o, w.heap[fb]? = some o ∧ TMap Try.prog 86 o ReqKey (RFault w) S.faults
  asked : ∃ o, w.heap[ab]? = some o ∧ TMap Try.prog 9 o StrKey RAsk S.asked
  d1 : pb ≠ fb
  d2 : pb ≠ ab
  d3 : fb ≠ ab

theorem not_row_of_map {P : Program} {κ ν : Type} {w : World} {b : Nat} {o : Obj} {k : TypeId} {ek : κ → Value} {R : Value → ν → Prop} {m : List (κ × ν)} (hb : w.heap[b]? = some o) (T : TMap P k o ek R m) (l : List UInt8) : ¬ Row8 w b l := by
  obtain ⟨es, c, ho⟩ := T.is_map
  intro h
  unfold Row8 at h
  rw [hb, ho] at h
  simp at h
theorem NetAt.not_row {w : World} {nb pb fb ab : Nat} {s : Int} {S : NetSt} (h : NetAt w nb pb fb ab s S) : ∀ k, k ∈ [nb, pb, fb, ab] → ∀ l, ¬ Row8 w k l := by
  intro k hk l
  obtain ⟨o1, h1, t1⟩ := h.pages
  obtain ⟨o2, h2, t2⟩ := h.faults
  obtain ⟨o3, h3, t3⟩ := h.asked
  simp only [List.mem_cons, List.not_mem_nil, or_false] at hk
  rcases hk with rfl | rfl | rfl | rfl
  · intro hh
    unfold Row8 at hh
    rw [h.blk] at hh
    simp at hh
  · exact not_row_of_map h1 t1 l
  · exact not_row_of_map h2 t2 l
  · exact not_row_of_map h3 t3 l
theorem NetAt.ne_nb {w : World} {nb pb fb ab : Nat} {s : Int} {S : NetSt} (h : NetAt w nb pb fb ab s S) : nb ≠ pb ∧ nb ≠ fb ∧ nb ≠ ab := by
  obtain ⟨o1, h1, t1⟩ := h.pages
  obtain ⟨o2, h2, t2⟩ := h.faults
  obtain ⟨o3, h3, t3⟩ := h.asked
  have hb := h.blk
  refine ⟨?_, ?_, ?_⟩ <;> rintro rfl
  · obtain ⟨es, c, ho⟩ := t1.is_map; rw [h1, ho] at hb; simp at hb
  · obtain ⟨es, c, ho⟩ := t2.is_map; rw [h2, ho] at hb; simp at hb
  · obtain ⟨es, c, ho⟩ := t3.is_map; rw [h3, ho] at hb; simp at hb
/-- nothing of the network has turned -/
theorem NetAt.keep {w w' : World} {nb pb fb ab : Nat} {s : Int} {S : NetSt} (h : NetAt w nb pb fb ab s S) (hb : ∀ k, k ∈ [nb, pb, fb, ab] → w'.heap[k]? = w.heap[k]?) (hr : Rows8 w w') : NetAt w' nb pb fb ab s S := by
  obtain ⟨o1, h1, t1⟩ := h.pages
  obtain ⟨o2, h2, t2⟩ := h.faults
  obtain ⟨o3, h3, t3⟩ := h.asked
  exact ⟨(hb nb (by simp)).trans h.blk, ⟨o1, (hb pb (by simp)).trans h1, t1.mono fun _ _ hh => hh.keep hr⟩, ⟨o2, (hb fb (by simp)).trans h2, t2.mono fun _ _ hh => hh.keep hr⟩,
    ⟨o3, (hb ab (by simp)).trans h3, t3⟩, h.d1, h.d2, h.d3⟩
theorem NetAt.lt {w : World} {nb pb fb ab : Nat} {s : Int} {S : NetSt} (h : NetAt w nb pb fb ab s S) : ∀ k, k ∈ [nb, pb, fb, ab] → k < w.heap.size := by
  intro k hk
  obtain ⟨o1, h1, _⟩ := h.pages
  obtain ⟨o2, h2, _⟩ := h.faults
  obtain ⟨o3, h3, _⟩ := h.asked
  simp only [List.mem_cons, List.not_mem_nil, or_false] at hk
  rcases hk with rfl | rfl | rfl | rfl
  · exact lt_of_heap h.blk
  · exact lt_of_heap h1
  · exact lt_of_heap h2
  · exact lt_of_heap h3
theorem NetAt.below {w w' : World} {nb pb fb ab : Nat} {s : Int} {S : NetSt} (h : NetAt w nb pb fb ab s S) (hb : Below w.heap.size w w') : NetAt w' nb pb fb ab s S :=
  h.keep (fun k hk => hb.block k (h.lt k hk)) (Rows8.of_fr (Fr.of_below hb []) (by simp))
theorem NetAt.fr {w w' : World} {nb pb fb ab : Nat} {s : Int} {S : NetSt} {F : List Nat} (h : NetAt w nb pb fb ab s S) (hf : Fr F w w') (h1 : ∀ k, k ∈ F → k ∉ [nb, pb, fb, ab]) (h2 : ∀ k, k ∈ F → ∀ l, ¬ Row8 w k l) : NetAt w' nb pb fb ab s S :=
  h.keep (fun k hk => hf.block k (h.lt k hk) fun hh => h1 k hh hk) (Rows8.of_fr hf h2)
/-- the lock's state word -/
theorem NetAt.lock {w : World} {nb pb fb ab : Nat} {s : Int} {S : NetSt} (h : NetAt w nb pb fb ab s S) (s' : Int) : NetAt (w.setCell ⟨nb, 0, none⟩ (.int .i32 s')) nb pb fb ab s' S := by
  have hf : Fr [nb] w (w.setCell ⟨nb, 0, none⟩ (.int .i32 s')) := Fr.setCell _ _ _ _ (by simp)
  have hr : Rows8 w (w.setCell ⟨nb, 0, none⟩ (.int .i32 s')) := Rows8.of_fr hf (fun k hk => h.not_row k (by simp at hk; simp [hk]))
  obtain ⟨n1, n2, n3⟩ := h.ne_nb
  obtain ⟨o1, h1, t1⟩ := h.pages
  obtain ⟨o2, h2, t2⟩ := h.faults
  obtain ⟨o3, h3, t3⟩ := h.asked
  refine ⟨by rw [heap_setCell_at h.blk]; rfl, ⟨o1, (hf.block _ (lt_of_heap h1) (by simp; exact n1.symm)).trans h1, t1.mono fun _ _ hh => hh.keep hr⟩,
    ⟨o2, (hf.block _ (lt_of_heap h2) (by simp; exact n2.symm)).trans h2, t2.mono fun _ _ hh => hh.keep hr⟩, ⟨o3, (hf.block _ (lt_of_heap h3) (by simp; exact n3.symm)).trans h3, t3⟩, h.d1, h.d2, h.d3⟩

/-- Lock, as this network's methods call it -/
theorem lock_at {nb pb fb ab : Nat} {S : NetSt} (w : World) (h : NetAt w nb pb fb ab 0 S) : Calls Try.prog 32 #[.pointer (some ⟨nb, 0, none⟩)] w fun e w' => e = .returned (.tuple #[]) ∧ NetAt w' nb pb fb ab 1 S ∧ Fr [nb] w w' := by
  have c := blk_cells h.blk
  refine (lock_free Try.muLib ⟨nb, 0, none⟩ w (c.1 0) (c.2.1 0)).mono ?_
  rintro e w' ⟨rfl, rfl⟩
  exact ⟨rfl, h.lock 1, Fr.setCell _ _ _ _ (by simp)⟩
theorem unlock_at {nb pb fb ab : Nat} {S : NetSt} (u : FrameMode) (w : World) (h : NetAt w nb pb fb ab 1 S) : CallsD Try.prog 33 #[.pointer (some ⟨nb, 0, none⟩)] u w fun e u' w' => u' = u ∧ (e = .returned (.tuple #[]) ∧ NetAt w' nb pb fb ab 0 S ∧ Fr [nb] w w') := by
  have c := blk_cells h.blk
  refine (unlock_deferred Try.muLib ⟨nb, 0, none⟩ u w (c.1 0) (c.2.1 0)).mono ?_
  rintro e u' w' ⟨rfl, rfl, rfl⟩
  exact ⟨rfl, rfl, h.lock 0, Fr.setCell _ _ _ _ (by simp)⟩

theorem zeroInt (w : World) : (zeroValue 3).run Try.prog w = .ok (.int .i64 0) w := by kernel_rfl
theorem zeroBytes (w : World) : (zeroValue 31).run Try.prog w = .ok (.slice none 0 0) w := by kernel_rfl
def noFault : Value := fV { data := #[] } 0 0 0 none 0 0
theorem zeroFault (w : World) : (zeroValue 38).run Try.prog w = .ok noFault w := by kernel_rfl

/-- what a request gets, by what the network knows -/
def ansBase (S : NetSt) (u : ByteArray) : Int × List UInt8 × Int :=
  match look S.pages u with | none => (404, [], 1) | some d => (200, d, 1)
def nth (S : NetSt) (u : ByteArray) : Nat := (look S.asked u).getD 0
def ansOf (S : NetSt) (u : ByteArray) : Int × List UInt8 × Int :=
  match look S.faults (u, ((nth S u + 1 : Nat) : Int)) with
  | none => ansBase S u
  | some f => kindDo f.kind f.n f.data (look S.pages u).isSome (ansBase S u).1 (ansBase S u).2.1 (ansBase S u).2.2
def NetSt.ask (S : NetSt) (u : ByteArray) : NetSt := { S with asked := put S.asked u (nth S u + 1) }

theorem NetAt.ask_look {w : World} {nb pb fb ab : Nat} {s : Int} {S : NetSt} (h : NetAt w nb pb fb ab s S) {u : ByteArray} (hu : u.size ≤ maxLen) (x : World) (hx : x.heap[ab]? = w.heap[ab]?) :
    (Instr.lookup 72 (.map (some ab)) (.string u) false).run Try.prog x = .ok (.int .i64 (nth S u : Nat)) x := by
  obtain ⟨o, hb, T⟩ := h.asked
  obtain ⟨v, ok, hL, hrun⟩ := T.lookup str_law Try.underlying72 strKey_inj zeroInt (str_key hu)
  have hr := hrun x ab false (hx.trans hb)
  simp only [StrKey] at hr
  rw [hr]
  unfold nth
  rcases hL with ⟨h1, h2, _⟩ | ⟨y, h1, h2, _⟩
  · rw [h1, h2]; rfl
  · rw [h1, h2]; rfl
theorem NetAt.ask_put {w : World} {nb pb fb ab : Nat} {s : Int} {S : NetSt} (h : NetAt w nb pb fb ab s S) {u : ByteArray} (hu : u.size ≤ maxLen) :
    ∃ w', (Instr.mapUpdate 72 (.map (some ab)) (.string u) (.int .i64 ((nth S u : Int) + 1))).run Try.prog w = .ok () w' ∧ NetAt w' nb pb fb ab s (S.ask u) ∧ Fr [ab] w w' := by
  obtain ⟨o3, h3, T⟩ := h.asked
  obtain ⟨o', hrun, hT⟩ := T.update str_law Try.underlying72 strKey_inj (str_key hu) (.int .i64 ((nth S u : Int) + 1))
  have hf : Fr [ab] w (ChangeMaps.setBlock w ab o') := Fr.setBlock _ _ _ _ (by simp)
  refine ⟨_, hrun w ab h3, ?_, hf⟩
  have hr : Rows8 w (ChangeMaps.setBlock w ab o') := Rows8.of_fr hf (fun k hk => h.not_row k (by simp at hk; simp [hk]))
  obtain ⟨n1, n2, n3⟩ := h.ne_nb
  obtain ⟨o1, h1, t1⟩ := h.pages
  obtain ⟨o2, h2, t2⟩ := h.faults
  exact ⟨(hf.block _ (lt_of_heap h.blk) (by simpa using n3)).trans h.blk, ⟨o1, (hf.block _ (lt_of_heap h1) (by simpa using h.d2)).trans h1, t1.mono fun _ _ hh => hh.keep hr⟩,
    ⟨o2, (hf.block _ (lt_of_heap h2) (by simpa using h.d3)).trans h2, t2.mono fun _ _ hh => hh.keep hr⟩, ⟨o', setBlock_same (lt_of_heap h3), hT RAsk _ (fun _ _ hh => hh) rfl⟩, h.d1, h.d2, h.d3⟩
theorem NetAt.page_look {w : World} {nb pb fb ab : Nat} {s : Int} {S : NetSt} (h : NetAt w nb pb fb ab s S) {u : ByteArray} (hu : u.size ≤ maxLen) :
    ∃ v ok, Looked (RPage w) (.slice none 0 0) S.pages u v ok ∧ ∀ x : World, x.heap[pb]? = w.heap[pb]? → (Instr.lookup 70 (.map (some pb)) (.string u) true).run Try.prog x = .ok (.tuple #[v, .bool ok]) x := by
  obtain ⟨o, hb, T⟩ := h.pages
  obtain ⟨v, ok, hL, hrun⟩ := T.lookup str_law Try.underlying70 strKey_inj zeroBytes (str_key hu)
  exact ⟨v, ok, hL, fun x hx => hrun x pb true (hx.trans hb)⟩
theorem NetAt.fault_look {w : World} {nb pb fb ab : Nat} {s : Int} {S : NetSt} (h : NetAt w nb pb fb ab s S) {u : ByteArray} (hu : u.size ≤ maxLen) {k : Int} (hk : -9223372036854775808 ≤ k ∧ k ≤ 9223372036854775807) :
    ∃ v ok, Looked (RFault w) noFault S.faults (u, k) v ok ∧ ∀ x : World, x.heap[fb]? = w.heap[fb]? → (Instr.lookup 71 (.map (some fb)) (.agg #[.string u, .int .i64 k]) true).run Try.prog x = .ok (.tuple #[v, .bool ok]) x := by
  obtain ⟨o, hb, T⟩ := h.faults
  obtain ⟨l, hl⟩ := req_key (p := (u, k)) hu hk
  obtain ⟨v, ok, hL, hrun⟩ := T.lookup req_law Try.underlying71 reqKey_inj zeroFault hl
  exact ⟨v, ok, hL, fun x hx => hrun x fb true (hx.trans hb)⟩
theorem nth_ask (S : NetSt) (u v : ByteArray) : nth (S.ask u) v = if v = u then nth S u + 1 else nth S v := by
  unfold NetSt.ask nth
  simp only [look_put]
  split <;> rfl
end Go.Proofs.Ytpblaclhfcomeaa
