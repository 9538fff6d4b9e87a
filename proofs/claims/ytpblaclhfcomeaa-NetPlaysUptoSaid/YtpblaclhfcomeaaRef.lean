/-
  The reference network of the document (mewsref2), as it lies in memory; its small functions.
-/
import Derived.Test.YtpblaclhfcomeaaAlone
import Derived.Laws.AppendOwnNone
import Derived.Deep.AppendLies
namespace Go.Proofs.Ytpblaclhfcomeaa
open Go.RowKit Go.Maps

attribute [local go_sem] lt1 lt2 lt3 lt4 lt5 lt6

/-! ### rows of its own -/
theorem own_cell {w : World} {base k g n cap : Nat} {t : TypeId} {xs : List Value} (h : w.ownsRow base t k (.slice (some ⟨g, 0, none⟩) n cap) n xs) {j : Nat} {u : Value} (hj : xs[j]? = some u) : w.cell? ⟨g, j, none⟩ = some u := by
  have := h.cells (g := g) rfl j u hj
  rwa [Addr.add_lit, Nat.zero_add] at this
theorem own_form {w : World} {base k n : Nat} {t : TypeId} {v : Value} {xs : List Value} (h : w.ownsRow base t k v n xs) : ∃ A cap, v = .slice A n cap ∧ (A = none → n = 0 ∧ cap = 0) ∧ (∀ a, A = some a → ∃ g, a = ⟨g, 0, none⟩) ∧ n ≤ cap ∧ cap ≤ maxLen := by
  obtain ⟨h1, ⟨rfl, h2⟩ | ⟨g, cap, cur, rfl, _, hg, hn, hc, hs, hx⟩⟩ := h
  · subst h2
    exact ⟨none, 0, rfl, by simp, by simp, by simp, by simp⟩
  · exact ⟨_, cap, rfl, by simp, fun a ha => ⟨g, by cases ha; rfl⟩, hn, hc⟩
theorem own_bs {w : World} {base : Nat} {v : Value} {l : List UInt8} (h : w.ownsRow base 5 1 v l.length (u8s l)) : ∃ A cap, v = .slice A l.length cap ∧ Bs w A cap l := row_sl h

theorem flat_at {k : Nat} : ∀ {cs : List (List Value)} {i : Nat} {c : List Value} (_ : ∀ c ∈ cs, c.length = k) (_ : cs[i]? = some c) {j : Nat} (_ : j < k), cs.flatten[i * k + j]? = c[j]?
  | [], i, c, _, hi, j, _ => by simp at hi
  | a :: cs, 0, c, hk, hi, j, hj => by
    simp at hi
    subst hi
    have := hk a (by simp)
    rw [List.flatten_cons, Nat.zero_mul, Nat.zero_add, List.getElem?_append_left (by omega)]
  | a :: cs, i + 1, c, hk, hi, j, hj => by
    simp at hi
    have ha := hk a (by simp)
    rw [List.flatten_cons, List.getElem?_append_right (by rw [ha, Nat.add_mul]; omega)]
    rw [ha, show (i + 1) * k + j - k = i * k + j by rw [Nat.add_mul]; omega]
    exact flat_at (fun c hc => hk c (by simp [hc])) hi hj

/-! ### what the reference's steps may turn -/
def RefTy (t : TypeId) : Prop := t = 69 ∨ t = 94 ∨ t = 64 ∨ t = 9
def RefBlk (w : World) (k : Nat) : Prop := ∃ cs t, w.heap[k]? = some (.cells cs t (0, 0)) ∧ RefTy t
/-- only the reference's own blocks, all made behind 'base', may have turned -/
structure FrT (base : Nat) (w w' : World) : Prop where
  os : w'.os = w.os
  tape : w'.tape = w.tape
  output : w'.output = w.output
  size : w.heap.size ≤ w'.heap.size
  block : ∀ k, k < w.heap.size → (k < base ∨ ¬ RefBlk w k) → w'.heap[k]? = w.heap[k]?
theorem FrT.refl (base : Nat) (w : World) : FrT base w w := ⟨rfl, rfl, rfl, Nat.le_refl _, fun _ _ _ => rfl⟩
theorem FrT.trans {base : Nat} {a b c : World} (h : FrT base a b) (k : FrT base b c) : FrT base a c :=
  ⟨k.os.trans h.os, k.tape.trans h.tape, k.output.trans h.output, Nat.le_trans h.size k.size, fun i hi hn => by
    have e := h.block i hi hn
    refine (k.block i (Nat.lt_of_lt_of_le hi h.size) (hn.imp id fun hh hr => hh ?_)).trans e
    obtain ⟨cs, t, h1, h2⟩ := hr
    exact ⟨cs, t, e.symm.trans h1, h2⟩⟩
theorem FrT.of_below {base : Nat} {w w' : World} (h : Below w.heap.size w w') : FrT base w w' := ⟨h.os, h.tape, h.output, h.size, fun k hk _ => h.block k hk⟩
theorem FrT.below {base : Nat} {w w' : World} (h : FrT base w w') (hb : base ≤ w.heap.size) : Below base w w' := ⟨h.os, h.tape, h.output, h.size, fun k hk => h.block k (by omega) (.inl hk)⟩
theorem FrT.drewN (base : Nat) (w : World) (n : Nat) : FrT base w (w.drewN n) := ⟨rfl, rfl, rfl, Nat.le_refl _, fun _ _ _ => rfl⟩
theorem FrT.of_fr {base : Nat} {S : List Nat} {w w' : World} (h : Fr S w w') (hS : ∀ k, k ∈ S → base ≤ k ∧ (k < w.heap.size → RefBlk w k)) : FrT base w w' :=
  ⟨h.os, h.tape, h.output, h.size, fun k hk hn => h.block k hk fun hh => by
    obtain ⟨h1, h2⟩ := hS k hh
    rcases hn with hn | hn
    · omega
    · exact hn (h2 hk)⟩
theorem Fr.of_grown {w w' : World} {row : Option Nat} (h : w.grownBy w' row) : Fr row.toList w w' :=
  ⟨h.os, h.tape, h.output, h.size, fun k hk hn => h.block k hk fun e => hn (by rw [← e]; simp)⟩
/-- a block of the bytes stays -/
theorem FrT.keep_u8 {base : Nat} {w w' : World} (h : FrT base w w') {g : Nat} {cs : Array Value} (hg : w.heap[g]? = some (.cells cs 5 (0, 0))) : w'.heap[g]? = some (.cells cs 5 (0, 0)) := by
  refine (h.block g (lt_of_heap hg) (.inr ?_)).trans hg
  rintro ⟨cs2, t, h1, h2⟩
  rw [hg] at h1
  simp only [Option.some.injEq, Obj.cells.injEq] at h1
  obtain ⟨_, rfl, _⟩ := h1
  revert h2
  unfold RefTy
  decide
theorem own_u8_keep {w w' : World} {base : Nat} {v : Value} {n : Nat} {xs : List Value} (h : w.ownsRow base 5 1 v n xs) (hk : ∀ (g : Nat) (cs : Array Value), w.heap[g]? = some (.cells cs 5 (0, 0)) → w'.heap[g]? = some (.cells cs 5 (0, 0))) : w'.ownsRow base 5 1 v n xs := by
  refine ⟨h.1, ?_⟩
  rcases h.2 with hn | ⟨g, cap, cur, rfl, hb, hg, rest⟩
  · exact .inl hn
  · exact .inr ⟨g, cap, cur, rfl, hb, hk g cur hg, rest⟩
theorem own_base {w : World} {base base' : Nat} {e : TypeId} {k : Nat} {v : Value} {n : Nat} {xs : List Value} (h : w.ownsRow base e k v n xs) (hb : base' ≤ base) : w.ownsRow base' e k v n xs := by
  refine ⟨h.1, ?_⟩
  rcases h.2 with hn | ⟨g, cap, cur, rfl, hg, rest⟩
  · exact .inl hn
  · exact .inr ⟨g, cap, cur, rfl, Nat.le_trans hb hg, rest⟩

/-- a datum's bytes, in memory of their own -/
def RData (w : World) (v : Value) (d : List UInt8) : Prop := w.ownsRow 0 5 1 v d.length (u8s d) ∧ d.length ≤ 1048576
def U8s (w w' : World) : Prop := ∀ (g : Nat) (cs : Array Value), w.heap[g]? = some (.cells cs 5 (0, 0)) → w'.heap[g]? = some (.cells cs 5 (0, 0))
theorem RData.keep {w w' : World} {v : Value} {d : List UInt8} (h : RData w v d) (hk : U8s w w') : RData w' v d := ⟨own_u8_keep h.1 hk, h.2⟩
def RPg (w : World) (c : List Value) (p : ByteArray × List UInt8) : Prop := ∃ v, c = [.string p.1, v] ∧ RData w v p.2 ∧ p.1.size ≤ 1048576
def RFt (w : World) (c : List Value) (f : (ByteArray × Int) × PFault) : Prop := ∃ v, c = [.string f.2.u, .int .i64 f.2.att, .int .i64 f.2.kind, .int .i64 f.2.n, v] ∧ RData w v f.2.data ∧ f.1 = (f.2.u, f.2.att) ∧ f.2.u.size ≤ 1048576
theorem RPg.keep {w w' : World} {c : List Value} {p : ByteArray × List UInt8} (h : RPg w c p) (hk : U8s w w') : RPg w' c p := by
  obtain ⟨v, h1, h2, h3⟩ := h
  exact ⟨v, h1, h2.keep hk, h3⟩
theorem RFt.keep {w w' : World} {c : List Value} {f : (ByteArray × Int) × PFault} (h : RFt w c f) (hk : U8s w w') : RFt w' c f := by
  obtain ⟨v, h1, h2, h3⟩ := h
  exact ⟨v, h1, h2.keep hk, h3⟩

/-- the reference network: its block, its three rows, which are its own and made behind 'base' -/
structure RefAt (w : World) (base rb : Nat) (S : NetSt) (log : List ByteArray) (vp vf vl : Value) : Prop where
  blk : w.heap[rb]? = some (.cells #[vp, vf, vl] 69 (0, 0))
  hb : base ≤ rb
  pages : ∃ cs, All2 (RPg w) cs S.pages ∧ w.ownsRow base 94 2 vp S.pages.length cs.flatten
  faults : ∃ cs, All2 (RFt w) cs S.faults ∧ w.ownsRow base 64 5 vf S.faults.length cs.flatten
  lrow : w.ownsRow base 9 1 vl log.length (log.map Value.string)
  sm : ∀ s : ByteArray, s ∈ log → s.size ≤ 1048576

theorem own_keep {w w' : World} {base : Nat} {e : TypeId} {k : Nat} {v : Value} {n : Nat} {xs : List Value} (h : w.ownsRow base e k v n xs) (hk : ∀ (g : Nat) (cs : Array Value), w.heap[g]? = some (.cells cs e (0, 0)) → w'.heap[g]? = some (.cells cs e (0, 0))) : w'.ownsRow base e k v n xs := by
  refine ⟨h.1, ?_⟩
  rcases h.2 with hn | ⟨g, cap, cur, rfl, hb, hg, rest⟩
  · exact .inl hn
  · exact .inr ⟨g, cap, cur, rfl, hb, hk g cur hg, rest⟩
/-- where every block of cells stays, but for the network's own struct -/
theorem RefAt.keep {w w' : World} {base rb : Nat} {S : NetSt} {log : List ByteArray} {vp vf vl : Value} (h : RefAt w base rb S log vp vf vl) (hk : ∀ (g : Nat) (cs : Array Value) (t : TypeId), t = 5 ∨ RefTy t → w.heap[g]? = some (.cells cs t (0, 0)) → w'.heap[g]? = some (.cells cs t (0, 0))) : RefAt w' base rb S log vp vf vl := by
  have hu : U8s w w' := fun g cs => hk g cs _ (.inl rfl)
  obtain ⟨cs, h1, h2⟩ := h.pages
  obtain ⟨ds, h3, h4⟩ := h.faults
  exact ⟨hk _ _ _ (.inr (.inl rfl)) h.blk, h.hb, ⟨cs, h1.mono fun _ _ hh => hh.keep hu, own_keep h2 fun g c => hk g c _ (.inr (.inr (.inl rfl)))⟩,
    ⟨ds, h3.mono fun _ _ hh => hh.keep hu, own_keep h4 fun g c => hk g c _ (.inr (.inr (.inr (.inl rfl))))⟩, own_keep h.lrow fun g c => hk g c _ (.inr (.inr (.inr (.inr rfl)))), h.sm⟩
theorem RefAt.below {w w' : World} {base rb : Nat} {S : NetSt} {log : List ByteArray} {vp vf vl : Value} (h : RefAt w base rb S log vp vf vl) (hb : Below w.heap.size w w') : RefAt w' base rb S log vp vf vl :=
  h.keep fun g _ _ _ hg => (hb.block g (lt_of_heap hg)).trans hg
theorem RefAt.drewN {w : World} {base rb : Nat} {S : NetSt} {log : List ByteArray} {vp vf vl : Value} (h : RefAt w base rb S log vp vf vl) (n : Nat) : RefAt (w.drewN n) base rb S log vp vf vl :=
  h.below ⟨rfl, rfl, rfl, Nat.le_refl _, fun _ _ => rfl⟩
theorem NetAt.frT {w w' : World} {nb pb fb ab : Nat} {s : Int} {S : NetSt} {base : Nat} (h : NetAt w nb pb fb ab s S) (hf : FrT base w w') : NetAt w' nb pb fb ab s S := by
  refine h.keep (fun k hk => hf.block k (h.lt k hk) (.inr ?_)) (fun g l hg => hf.keep_u8 hg)
  rintro ⟨cs, t, h1, h2⟩
  obtain ⟨o1, g1, t1⟩ := h.pages
  obtain ⟨o2, g2, t2⟩ := h.faults
  obtain ⟨o3, g3, t3⟩ := h.asked
  simp only [List.mem_cons, List.not_mem_nil, or_false] at hk
  rcases hk with rfl | rfl | rfl | rfl
  · rw [h.blk] at h1
    simp only [Option.some.injEq, Obj.cells.injEq] at h1
    obtain ⟨_, rfl, _⟩ := h1
    revert h2
    unfold RefTy
    decide
  · obtain ⟨es, c, rfl⟩ := t1.is_map
    rw [g1] at h1; cases h1
  · obtain ⟨es, c, rfl⟩ := t2.is_map
    rw [g2] at h1; cases h1
  · obtain ⟨es, c, rfl⟩ := t3.is_map
    rw [g3] at h1; cases h1

/-! ### its small functions -/
theorem long_any (s : ByteArray) (w : World) (hs : s.size ≤ 9223372036854775807) : Calls Try.prog 37 #[.string s] w fun e w' => e = .returned (.bool (!fitsB s)) ∧ w = w' := by
  by_cases h : s.toList.isEmpty = true
  · go_enter Try.func37, Try.ntmps37
    go_wp2
    go_ret
    refine ⟨ret_bool ?_, rfl⟩
    simp [fitsB, h]
  · have h0 : s.toList.isEmpty = false := by simpa using h
    clear h
    go_enter Try.func37, Try.ntmps37
    go_wp2
    go_ret
    refine ⟨ret_bool ?_, rfl⟩
    unfold fitsB
    rw [h0]
    by_cases h4 : s.size ≤ 400
    · have : ¬ (400 : Int) < s.size := by omega
      simp [h4, this]
    · have : (400 : Int) < s.size := by omega
      simp [h4, this]

def BytesPost (x : List UInt8) (w : World) (e : Ending) (w' : World) : Prop :=
  ∃ v, e = .returned v ∧ w'.ownsRow w.heap.size 5 1 v x.length (u8s x) ∧ Below w.heap.size w w'
set_option maxRecDepth 10000 in
theorem bytes_any (x : List UInt8) (A : Option Addr) (c : Nat) (w : World) (hx : x.length ≤ 1048576) (h1 : Bs w A c x) :
    Calls Try.prog 39 #[.slice A x.length c] w (BytesPost x w) := by
  have H1 := Lib.hid h1
  clear h1
  obtain ⟨i0, hi0, hz0, hz1, hz2⟩ := info_parts infoU8
  cases A with
  | none =>
    obtain ⟨hx0, rfl⟩ := H1.out.nil rfl
    have hxn : x = [] := List.eq_nil_of_length_eq_zero hx0
    subst hxn
    clear H1
    go_enter Try.func39, Try.ntmps39
    go_wp2_with (first | (at_builtin; refine wpList_append_own_none rfl _ _ 31 rfl w.heap.size 5 i0 1 Try.underlying31 hi0 _ 0 [] rfl ?hw rfl ?_))
    case hw => exact World.ownsRow_made w #[] 0 (Nat.le_refl _) (by simp) (by simp)
    go_wp2
    go_ret
    exact ⟨_, rfl, World.ownsRow_made w #[] 0 (Nat.le_refl _) (by simp) (by simp), (Below.refl _ _).alloc (Nat.le_refl _) _⟩
  | some ad =>
    go_enter Try.func39, Try.ntmps39
    go_wp2_with (first | (at_builtin; refine wpList_append_own _ rfl _ _ 31 rfl w.heap.size 5 i0 (.int .u8 0) 1 1 Try.underlying31 hi0 hz0 hz1 hz2 rfl (by omega) _ 0 [] rfl ?hw ad x.length c (u8s x) rfl ?hl ?hc (u8s_one x) ?h1 ?h2 ?h3 ?_))
    case hw => exact World.ownsRow_made w #[] 0 (Nat.le_refl _) (by simp) (by simp)
    case hl => simp [u8s]
    case hc =>
      intro j u hu
      have hj : j < x.length := by have := (List.getElem?_eq_some_iff.1 hu).1; simpa [u8s] using this
      obtain ⟨b, o, hbo, hcell⟩ := H1.out.cells (by omega)
      have : ad = ⟨b, o, none⟩ := Option.some.inj hbo
      subst this
      rw [Addr.add_lit]
      exact Cells.alloc _ _ _ _ ((hcell j (by omega)).trans hu)
    case h1 => simp [maxLen]; omega
    case h2 => omega
    case h3 => simp
    intro v' w' hown hgrow _
    go_wp2
    go_ret
    refine ⟨v', rfl, by simpa using hown, ?_⟩
    exact ((Below.refl _ _).alloc (Nat.le_refl _) _).grown hgrow (by simp) (by intro k hk; cases hk; exact Nat.le_refl _)
end Go.Proofs.Ytpblaclhfcomeaa
