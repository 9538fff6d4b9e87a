/-
  Rows of its own, the small functions of the reference (as in ArkOwn, with this chapter's functions).
  A file system, plain; where it lies in memory.
-/
import Derived.Test.YtaolddgnannojaaGreatDoorBase
import Derived.Laws.AppendOwnNone
import Derived.Deep.AppendLies
import Derived.Deep.QuietTactic
import Derived.BigQuiet
import Derived.Laws.IdiomStrings
import Derived.Shelf.Bytes.SlSmallAll
import Derived.Maps.RangeWalk
import Derived.Maps.OwnOps
import Derived.Maps.OwnSet
import Derived.Maps.Ext
namespace Go.Proofs.YtaolddgnannojaaGreatDoor
open Go.RowKit

attribute [local go_sem] lt1 lt2 lt3 lt4 lt5 lt6

theorem row_sl {w : World} {base n : Nat} {t : TypeId} {v : Value} {xs : List Value} (h : w.ownsRow base t 1 v n xs) : ∃ A cap, v = .slice A n cap ∧ Sl w A cap n 1 xs := by
  obtain ⟨h1, ⟨rfl, h2⟩ | ⟨g, cap, cur, rfl, _, hg, hn, hc, hs, hx⟩⟩ := h
  · subst h2
    exact ⟨none, 0, rfl, h1, by simp, by simp, by simp, by simp⟩
  · refine ⟨_, cap, rfl, h1, by simp, hn, hc, fun _ => ⟨g, 0, rfl, fun j hj => ?_⟩⟩
    rw [← hx, List.getElem?_take_of_lt hj]
    simp [World.cell?, hg]
theorem own_cell {w : World} {base k g n cap : Nat} {t : TypeId} {xs : List Value} (h : w.ownsRow base t k (.slice (some ⟨g, 0, none⟩) n cap) n xs) {j : Nat} {u : Value} (hj : xs[j]? = some u) : w.cell? ⟨g, j, none⟩ = some u := by
  have := h.cells (g := g) rfl j u hj
  rwa [Addr.add_lit, Nat.zero_add] at this
theorem own_form {w : World} {base k n : Nat} {t : TypeId} {v : Value} {xs : List Value} (h : w.ownsRow base t k v n xs) : ∃ A cap, v = .slice A n cap ∧ (A = none → n = 0 ∧ cap = 0) ∧ (∀ a, A = some a → ∃ g, a = ⟨g, 0, none⟩) ∧ n ≤ cap ∧ cap ≤ maxLen := by
  obtain ⟨h1, ⟨rfl, h2⟩ | ⟨g, cap, cur, rfl, _, hg, hn, hc, hs, hx⟩⟩ := h
  · subst h2
    exact ⟨none, 0, rfl, by simp, by simp, by simp, by simp⟩
  · exact ⟨_, cap, rfl, by simp, fun a ha => ⟨g, by cases ha; rfl⟩, hn, hc⟩
theorem own_bs {w : World} {base : Nat} {v : Value} {l : List UInt8} (h : w.ownsRow base 5 1 v l.length (u8s l)) : ∃ A cap, v = .slice A l.length cap ∧ Bs w A cap l := row_sl h

theorem Fr.of_grown {w w' : World} {row : Option Nat} (h : w.grownBy w' row) : Fr row.toList w w' :=
  ⟨h.os, h.tape, h.output, h.size, fun k hk hn => h.block k hk fun e => hn (by rw [← e]; simp)⟩
theorem own_base {w : World} {base base' : Nat} {e : TypeId} {k : Nat} {v : Value} {n : Nat} {xs : List Value} (h : w.ownsRow base e k v n xs) (hb : base' ≤ base) : w.ownsRow base' e k v n xs := by
  refine ⟨h.1, ?_⟩
  rcases h.2 with hn | ⟨g, cap, cur, rfl, hg, rest⟩
  · exact .inl hn
  · exact .inr ⟨g, cap, cur, rfl, Nat.le_trans hb hg, rest⟩

theorem own_keep {w w' : World} {base : Nat} {e : TypeId} {k : Nat} {v : Value} {n : Nat} {xs : List Value} (h : w.ownsRow base e k v n xs) (hk : ∀ (g : Nat) (cs : Array Value), w.heap[g]? = some (.cells cs e (0, 0)) → w'.heap[g]? = some (.cells cs e (0, 0))) : w'.ownsRow base e k v n xs := by
  refine ⟨h.1, ?_⟩
  rcases h.2 with hn | ⟨g, cap, cur, rfl, hb, hg, rest⟩
  · exact .inl hn
  · exact .inr ⟨g, cap, cur, rfl, hb, hk g cur hg, rest⟩
theorem own_blk {w : World} {base : Nat} {e : TypeId} {k : Nat} {v : Value} {n : Nat} {xs : List Value} (h : w.ownsRow base e k v n xs) : ∀ b, v.ownBlock = some b → base ≤ b ∧ ∃ cur, w.heap[b]? = some (.cells cur e (0, 0)) := by
  intro b hb
  rcases h.2 with ⟨rfl, _⟩ | ⟨g, cap, cur, rfl, h1, hg, _⟩
  · simp [Value.ownBlock] at hb
  · simp [Value.ownBlock] at hb
    subst hb
    exact ⟨h1, cur, hg⟩
theorem num_any (n : Int) (w : World) : Calls Tryz.prog 17 #[.int .i64 n] w fun e w' => e = .returned (.int .i64 n) ∧ w = w' := by
  go_enter Tryz.func17, Tryz.ntmps17
  go_wp2
  go_ret
  exact ⟨rfl, rfl⟩

def SameRel (x y : List UInt8) (w : World) (i : Value) (wr : World) : Prop := ∃ k : Nat, k ≤ x.length ∧ i = .int .i64 k ∧ x.take k = y.take k ∧ ∃ n, wr = w.drewN n

theorem same_any (x y : List UInt8) (A1 A2 : Option Addr) (c1 c2 : Nat) (w : World) (h1 : Bs w A1 c1 x) (h2 : Bs w A2 c2 y) :
    Calls Tryz.prog 44 #[.slice A1 x.length c1, .slice A2 y.length c2] w fun e w' => e = .returned (.bool (x == y)) ∧ ∃ n, w' = w.drewN n := by
  have hx := h1.len_le
  have hy := h2.len_le
  have H1 := Lib.hid h1
  have H2 := Lib.hid h2
  clear h1 h2
  by_cases hl : x.length = y.length
  · have Hl := Lib.hid hl
    clear hl
    have hb : ((x.length : Int) != y.length) = false := by simp [Hl.out]
    go_enter Tryz.func44, Tryz.ntmps44
    go_wp2
    go_loopw [5] (fun i wr => SameRel x y w i wr) (fun i _ => x.length - (intOf i).toNat)
    case atStart => exact ⟨0, by omega, rfl, rfl, 0, rfl⟩
    case round =>
      obtain ⟨k, hk, rfl, hkk, n, rfl⟩ := hrel
      have Hkk := Lib.hid hkk
      clear hkk
      by_cases hlt : k < x.length
      · have hlt2 : k < y.length := by have := Hl.out; omega
        obtain ⟨b1, o1, rfl, g1⟩ := H1.out.at_ hlt
        obtain ⟨b2, o2, rfl, g2⟩ := H2.out.at_ hlt2
        obtain ⟨p, hp⟩ : ∃ p, p = x.getD k 0 := ⟨_, rfl⟩
        obtain ⟨q, hq⟩ : ∃ q, q = y.getD k 0 := ⟨_, rfl⟩
        rw [← hp] at g1
        rw [← hq] at g2
        have Hp := Lib.hid hp
        have Hq := Lib.hid hq
        clear hp hq
        by_cases he : p = q
        · subst he
          go_wp2_with fail
          go_quiet (fail)
          go_wp2
          go_roundw
          case rel =>
            refine ⟨k+1, by omega, by go_num, ?_, _, rfl⟩
            rw [take_succ_getD hlt, take_succ_getD hlt2, Hkk.out, ← Hp.out, ← Hq.out]
          case measure => simp [intOf]; omega
        · have hd : ((p.toNat : Int) != q.toNat) = true := by
            rw [bne_iff_ne]; intro h; apply he; exact UInt8.toNat_inj.1 (by omega)
          have He := Lib.hid he
          clear he
          go_wp2_with fail
          go_quiet (fail)
          go_wp2
          go_ret
          refine ⟨ret_bool ?_, n + nq, World.drewN_drewN _ _ _⟩
          symm; rw [beq_eq_false_iff_ne]; rintro rfl; exact He.out (Hp.out.trans Hq.out.symm)
      · go_wp2
        go_ret
        have hkx : k = x.length := by omega
        refine ⟨ret_bool ?_, _, rfl⟩
        have h3 := Hkk.out
        have h4 := Hl.out
        rw [List.take_of_length_le (by omega), List.take_of_length_le (by omega)] at h3
        simp [h3]
  · have hb : ((x.length : Int) != y.length) = true := by rw [bne_iff_ne]; omega
    have Hl := Lib.hid hl
    clear hl
    go_enter Tryz.func44, Tryz.ntmps44
    go_wp2
    go_ret
    refine ⟨ret_bool ?_, 0, rfl⟩
    symm; rw [beq_eq_false_iff_ne]; rintro rfl; exact Hl.out rfl

theorem infoU8 : (Tryz.prog.info? 5).map (fun i => (i.zero, i.size, i.bytes)) = some (some (.int .u8 0), 1, 1) := by kernel_rfl

/-- what fresh hands back -/
def FreshPost (x : List UInt8) (w : World) (e : Ending) (w' : World) : Prop :=
  ∃ g, e = .returned (.slice (some ⟨g, 0, none⟩) x.length x.length) ∧ w'.heap[g]? = some (.cells (u8s x).toArray 5 (0, 0)) ∧ w.heap.size ≤ g ∧ Below w.heap.size w w'

theorem fresh_any (x : List UInt8) (A : Option Addr) (c : Nat) (w : World) (hx : x.length ≤ 140737488351232) (h1 : Bs w A c x) :
    Calls Tryz.prog 18 #[.slice A x.length c] w (FreshPost x w) := by
  have H1 := Lib.hid h1
  clear h1
  obtain ⟨i0, hi0, hz0, hz1, hz2⟩ := info_parts infoU8
  go_enter Tryz.func18, Tryz.ntmps18
  go_wp2_with (first | (at_make; refine wpList_make_own _ rfl _ _ 29 rfl w.heap.size 5 i0 (.int .u8 0) 1 Tryz.underlying29 hi0 hz0 hz1 _ _ _ x.length rfl rfl rfl ?hby ?hml ?hba ?_))
  case hby => rw [hz2]; omega
  case hml => simp [maxLen]; omega
  case hba => exact Nat.le_refl _
  intro w1 hown hgrow
  go_wp2_with (first | (at_builtin; refine wpList_append_fits_any _ rfl _ _ 29 rfl w.heap.size 5 i0 1 Tryz.underlying29 hi0 hz1 w.heap.size 0 x.length [] rfl hown A x.length c (u8s x) rfl ?hl ?hn ?hc ?h1c ?hb ?_))
  case hl => simp [u8s]
  case hn => exact fun hA => H1.out.nil hA
  case hc =>
    intro ad hA j u hu
    have hj : j < x.length := by have := (List.getElem?_eq_some_iff.1 hu).1; simpa [u8s] using this
    obtain ⟨b, o, hbo, hcell⟩ := H1.out.cells (by omega)
    have : ad = ⟨b, o, none⟩ := Option.some.inj (hA.symm.trans hbo)
    subst this
    have h2 := (hcell j (by omega)).trans hu
    have h3 : w1.cell? ⟨b, o + j, none⟩ = some u := hgrow.cell h2 (by simp)
    by_cases hj0 : j = 0
    · subst hj0; simpa [Addr.add] using h3
    · simpa [Addr.add, hj0] using h3
  case h1c => exact u8s_one x
  case hb => omega
  intro w2 hown2 hgrow2
  go_wp2
  go_ret
  refine ⟨w.heap.size, rfl, ?_, Nat.le_refl _, ?_⟩
  · obtain ⟨_, h | ⟨g, cap, cur, hv, _, hh, _, _, hsz, htk⟩⟩ := hown2
    · simp at h
    · simp only [Value.slice.injEq, Option.some.injEq, Addr.mk.injEq] at hv
      obtain ⟨⟨rfl, _⟩, _, rfl⟩ := hv
      have he : cur = (u8s x).toArray := by rw [← htk, List.take_of_length_le (by simp [hsz])]
      rw [hh, he]
  · exact (((Below.refl _ _).grown hgrow (Nat.le_refl _) (by simp)).grown hgrow2 hgrow.size (by intro k hk; cases hk; exact Nat.le_refl _))
theorem fresh_at (x : List UInt8) (A : Option Addr) (len c : Nat) (w : World) (hlen : len = x.length) (hx : x.length ≤ 140737488351232) (h1 : Bs w A c x) :
    Calls Tryz.prog 18 #[.slice A len c] w (FreshPost x w) := by
  subst hlen
  exact fresh_any x A c w hx h1
theorem str_of_bs {w : World} {A : Option Addr} {c : Nat} {l : List UInt8} (h : Bs w A c l) : (convert 29 9 (.slice A l.length c)).run Tryz.prog w = .ok (.string ⟨l.toArray⟩) w := by
  cases l with
  | nil => exact run_convert_bytes_zero w 29 5 Tryz.underlying29 Tryz.underlying5 A c 9 Tryz.underlying9
  | cons x r =>
    obtain ⟨b, o, rfl, hx⟩ := h.cells (by simp)
    refine run_convert_bytes_back (P := Tryz.prog) w 29 9 5 ⟨b, o, none⟩ c (x :: r) Tryz.underlying29 Tryz.underlying5 Tryz.underlying9 fun j hj => ?_
    rw [Addr.add_lit, hx j (by omega), u8s_at hj]
    rw [List.getD_eq_getElem?_getD, List.getElem?_eq_getElem hj]
    rfl
/-- a slice of bytes cut -/
theorem Bs.cut {w : World} {A : Option Addr} {bb oo c i m : Nat} {l : List UInt8} (h : Bs w A c l) (hA : A = some ⟨bb, oo, none⟩) (him : i + m ≤ l.length) : Bs w (some ⟨bb, oo + i, none⟩) (c - i) ((l.drop i).take m) := by
  have hl := h.le
  have hbig := h.big
  have e : ((l.drop i).take m).length = m := by simp; omega
  refine ⟨by simp [u8s], by simp, by omega, by omega, fun hn => ⟨bb, oo + i, rfl, fun j hj => ?_⟩⟩
  rw [e] at hn hj
  obtain ⟨b2, o2, he, hx⟩ := h.cells (by omega)
  rw [hA] at he
  cases he
  rw [Nat.add_assoc, hx (i + j) (by omega), u8s_at (by omega), u8s_at (by omega)]
  simp [List.getD_eq_getElem?_getD, show j < m by omega]
/-- where 'b[l:]' begins -/
def cutA (A : Option Addr) (c l : Nat) : Option Addr := if c = l then A else A.map (·.add (l * 1))
theorem slice_lo (A : Option Addr) (n c l : Nat) (h : l ≤ n) (w : World) : (Instr.slice 29 (.slice A n c) (some (.int .i64 (l : Int))) none none).run Tryz.prog w = .ok (.slice (cutA A c l) (n - l) (c - l)) w := by
  have e : Tryz.prog.elem 29 = 5 := by kernel_rfl
  have ht : Tryz.prog.underlying 29 = some (.slice (Tryz.prog.elem 29)) := by rw [e]; exact Tryz.underlying29
  obtain ⟨i0, hi0, hz0, hz1, hz2⟩ := info_parts infoU8
  rw [run_slice_l (w := w) (ht := ht) (kl := .i64) (h0 := by omega) (h1 := by omega), e]
  simp [sizeOf, typeInfo, hi0, hz1, sliced, cutA]
theorem Bs.tail {w : World} {A : Option Addr} {c l : Nat} {L : List UInt8} (h : Bs w A c L) (hl : l ≤ L.length) : Bs w (cutA A c l) (c - l) (L.drop l) := by
  have h1 := h.le
  have h2 := h.big
  refine ⟨by simp [u8s], ?_, by simp; omega, by omega, fun hn => ?_⟩
  · intro hA
    unfold cutA at hA
    split at hA
    · rename_i e
      simp; omega
    · cases A with
      | none => have := h.nil rfl; simp; omega
      | some a => simp at hA
  · rw [List.length_drop] at hn
    obtain ⟨b, o, rfl, hx⟩ := h.cells (by omega)
    refine ⟨b, o + l, ?_, fun j hj => ?_⟩
    · unfold cutA
      rw [if_neg (by omega)]
      simp [Addr.add]
    · rw [List.length_drop] at hj
      rw [Nat.add_assoc, hx (l + j) (by omega), u8s_at (by omega), u8s_at (by simp; omega)]
      simp [List.getD_eq_getElem?_getD]
theorem own_of_block {w : World} {g base : Nat} {xs : List Value} {t : TypeId} (hb : base ≤ g) (h : w.heap[g]? = some (.cells xs.toArray t (0, 0))) (hm : xs.length ≤ maxLen) : w.ownsRow base t 1 (.slice (some ⟨g, 0, none⟩) xs.length xs.length) xs.length xs :=
  ⟨by simp, .inr ⟨g, xs.length, xs.toArray, rfl, hb, h, Nat.le_refl _, hm, by simp, by simp⟩⟩
def lenOf : Value → Nat
  | .slice _ n _ => n
  | _ => 0
theorem one_cell (n : Int) : ∀ u ∈ [Value.int .u8 n], u.oneCell' = true := by
  intro u hu
  simp only [List.mem_singleton] at hu
  subst hu
  rfl
end Go.Proofs.YtaolddgnannojaaGreatDoor
namespace Go.Proofs.YtaolddgnannojaaGreatDoor
open Go.RowKit Go.Maps

/-! ### plain -/
abbrev Dm : Type := DataW Unit
def sk (s : ByteArray) : Lit := .string s.data.toList
def ik (n : Nat) : Lit := .int .i64 (n : Nat)
def nval (n : Nat) : Dm := .lit (.int .i64 (n : Nat))
def natOf : Dm → Nat
  | .lit (.int _ a) => a.toNat
  | _ => 0
/-- the number that a map has at a key; 0: none -/
def kget (D : Dm) (k : Lit) : Nat := natOf (D.atKey k (nval 0))
def nget (D : Dm) (s : ByteArray) : Nat := kget D (sk s)
/-- a map of numbers -/
def Nats (D : Dm) : Prop := IsMap D ∧ ∀ k, ∃ n : Nat, D.atKey k (nval 0) = nval n
theorem Nats.at_ {D : Dm} (h : Nats D) (k : Lit) : D.atKey k (nval 0) = nval (kget D k) := by
  obtain ⟨n, hn⟩ := h.2 k
  unfold kget
  rw [hn]
  rfl
structure FileC where
  d : List UInt8
  sy : Nat
inductive Chg where
  | put (n : ByteArray) (k : Nat)
  | move (a b : ByteArray) (k : Nat)
  | del (n : ByteArray)
def Chg.on : Chg → Dm → Dm
  | .put n k, D => D.put (sk n) (nval k)
  | .move a b k, D => (D.del (sk a)).put (sk b) (nval k)
  | .del n, D => D.del (sk n)
structure Pend where
  dir : ByteArray
  file : Nat
  chg : Chg
structure FsSt where
  quota : Nat
  files : List (Nat × FileC)
  last : Nat
  names : Dm
  dur : Dm
  size : Int
  pend : List Pend
  steps : Nat
  armed : Nat
  down : Bool
/-- the place, among the files, of the one that has a number -/
def FsSt.idx (S : FsSt) (n : Nat) : Option Nat := S.files.findIdx? (fun p => p.1 == n)
def FsSt.of (S : FsSt) (s : ByteArray) : Option Nat := S.idx (nget S.names s)
/-! ### in memory -/
structure FsMem where
  fb : Nat
  fm : Nat
  nm : Nat
  dm : Nat
  pv : Value
  fl : List (Nat × Value)
def RPtr (v : Value) : Option (Dm × List MemPlace) := match v with
  | .pointer none => some (.nil, [])
  | .pointer (some a) => if a = ⟨a.block, 0, none⟩ then some (nval a.block, []) else none
  | _ => none
theorem RPtr_none : RPtr (.pointer none) = some (.nil, []) := rfl
theorem RPtr_some (g : Nat) : RPtr (.pointer (some ⟨g, 0, none⟩)) = some (nval g, []) := by simp [RPtr]
theorem RPtr_nil {v : Value} {p : List MemPlace} (h : RPtr v = some (.nil, p)) : v = .pointer none := by
  unfold RPtr at h
  split at h
  · rfl
  · split at h
    · simp [nval] at h
    · cases h
  · cases h
theorem RPtr_nval {v : Value} {g : Nat} {p : List MemPlace} (h : RPtr v = some (nval g, p)) : v = .pointer (some ⟨g, 0, none⟩) := by
  unfold RPtr at h
  split at h
  · simp [nval] at h
  · rename_i a
    split at h
    · rename_i ha
      simp [nval] at h
      have hg : a.block = g := by have := h.1; omega
      rw [ha, hg]
    · cases h
  · cases h
/-- the map of the files: where each lies -/
def fD (fs : List (Nat × FileC)) (fl : List (Nat × Value)) : Dm := .map ((fs.zip fl).map fun p => (ik p.1.1, nval p.2.1))
/-- a slice of bytes from a block's front (its capacity may end ahead of the block) -/
def DataAt (w : World) (v : Value) (d : List UInt8) : Prop :=
  (v = .slice none 0 0 ∧ d = []) ∨ ∃ g cap cur, v = .slice (some ⟨g, 0, none⟩) d.length cap ∧ w.heap[g]? = some (.cells cur 5 (0, 0)) ∧ d.length ≤ cap ∧ cap ≤ maxLen ∧ cap ≤ cur.size ∧ cur.toList.take d.length = u8s d
/-- a file -/
def FileAt (w : World) (e : Nat × FileC) (f : Nat × Value) : Prop :=
  w.heap[f.1]? = some (.cells #[f.2, .int .i64 (e.2.sy : Nat)] 58 (0, 0)) ∧ DataAt w f.2 e.2.d
/-- what a change's function has captured -/
def ChgAt (w : World) (c : Chg) (v : Value) : Prop := match c with
  | .put n k => n.size ≤ maxLen ∧ k ≤ 9223372036854775807 ∧ ∃ a b, v = .func (.func 28) #[] #[.pointer (some ⟨b, 0, none⟩), .pointer (some ⟨a, 0, none⟩)] ∧ w.heap[a]? = some (.cells #[.string n] 9 (0, 0)) ∧ w.heap[b]? = some (.cells #[.int .i64 (k : Nat)] 3 (0, 0))
  | .move n n' k => n.size ≤ maxLen ∧ n'.size ≤ maxLen ∧ k ≤ 9223372036854775807 ∧ ∃ a b d, v = .func (.func 76) #[] #[.pointer (some ⟨a, 0, none⟩), .pointer (some ⟨d, 0, none⟩), .pointer (some ⟨b, 0, none⟩)] ∧ w.heap[a]? = some (.cells #[.string n] 9 (0, 0)) ∧ w.heap[b]? = some (.cells #[.string n'] 9 (0, 0)) ∧ w.heap[d]? = some (.cells #[.int .i64 (k : Nat)] 3 (0, 0))
  | .del n => n.size ≤ maxLen ∧ ∃ a, v = .func (.func 78) #[] #[.pointer (some ⟨a, 0, none⟩)] ∧ w.heap[a]? = some (.cells #[.string n] 9 (0, 0))
def CPend (w : World) (c : List Value) (p : Pend) : Prop := ∃ v, c = [.string p.dir, .int .i64 (p.file : Nat), v] ∧ ChgAt w p.chg v
def FsMem.own (M : FsMem) : List Nat := M.fb :: M.fm :: M.nm :: M.dm :: (M.pv.ownBlock.toList ++ M.fl.flatMap fun f => f.1 :: f.2.ownBlock.toList)
theorem strK : Keyed Tryz.prog 9 := string_keyed Tryz.underlying9
theorem intK : Keyed Tryz.prog 3 := int_keyed Tryz.underlying3
abbrev OwnN (w : World) (b : Nat) (D : Dm) : Prop := w.ownsMap Tryz.prog 9 (plainElem Tryz.prog 3) b (Maps.size D) D
structure FsAt (w : World) (M : FsMem) (S : FsSt) : Prop where
  blk : w.heap[M.fb]? = some (.cells #[.int .i64 (S.quota : Nat), .map (some M.fm), .int .i64 (S.last : Nat), .map (some M.nm), .map (some M.dm), .int .i64 S.size, M.pv, .int .i64 (S.steps : Nat), .int .i64 (S.armed : Nat), .bool S.down] 49 (0, 0))
  names : OwnN w M.nm S.names
  dur : OwnN w M.dm S.dur
  natN : Nats S.names
  natD : Nats S.dur
  files : w.ownsMap Tryz.prog 3 RPtr M.fm S.files.length (fD S.files M.fl)
  each : All2 (FileAt w) S.files M.fl
  pend : ∃ cs, All2 (CPend w) cs S.pend ∧ w.ownsRow 0 63 3 M.pv S.pend.length cs.flatten
  nodup : M.own.Nodup
end Go.Proofs.YtaolddgnannojaaGreatDoor
