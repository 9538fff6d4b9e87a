/-
  Rows of its own, the small functions of the reference (as in ArkOwn, with this chapter's functions).
-/
import Derived.Test.YtaolddgnannojaaDoorBase
import Derived.Laws.AppendOwnNone
import Derived.Deep.AppendLies
import Derived.Deep.QuietTactic
import Derived.BigQuiet
import Derived.Laws.IdiomStrings
import Derived.Shelf.Bytes.SlSmallAll
namespace Go.Proofs.YtaolddgnannojaaDoor
open Go.RowKit

attribute [local go_sem] lt1 lt2 lt3 lt4 lt5 lt6

theorem row_sl {w : World} {base n : Nat} {t : TypeId} {v : Value} {xs : List Value} (h : w.ownsRow base t 1 v n xs) : ∃ A cap, v = .slice A n cap ∧ Sl w A cap n 1 xs := by
  obtain ⟨h1, ⟨rfl, h2⟩ | ⟨g, cap, cur, rfl, _, hg, hn, hc, hs, hx⟩⟩ := h
  · subst h2
    exact ⟨none, 0, rfl, h1, by simp, by simp, by simp, by simp⟩
  · refine ⟨_, cap, rfl, h1, by simp, hn, hc, fun _ => ⟨g, 0, rfl, fun j hj => ?_⟩⟩
    rw [← hx, List.getElem?_take_of_lt hj]
    simp [World.cell?, hg]
theorem own_cell {w : World} {base k g n cap : Nat} {t : TypeId} {xs : List Value} (h : w.ownsRow base t k (.slice (some ⟨g, 0, none⟩) n cap) n xs) {j : Nat} {u : Value} (hj : xs[j]? = some u) : w.cell? ⟨g, j, none⟩ = some u := by
  have := h.cells (g := g) rfl j u hj
  rwa [Addr.add_lit, Nat.zero_add] at this
theorem own_form {w : World} {base k n : Nat} {t : TypeId} {v : Value} {xs : List Value} (h : w.ownsRow base t k v n xs) : ∃ A cap, v = .slice A n cap ∧ (A = none → n = 0 ∧ cap = 0) ∧ (∀ a, A = some a → ∃ g, a = ⟨g, 0, none⟩) ∧ n ≤ cap ∧ cap ≤ maxLen := by
  obtain ⟨h1, ⟨rfl, h2⟩ | ⟨g, cap, cur, rfl, _, hg, hn, hc, hs, hx⟩⟩ := h
  · subst h2
    exact ⟨none, 0, rfl, by simp, by simp, by simp, by simp⟩
  · exact ⟨_, cap, rfl, by simp, fun a ha => ⟨g, by cases ha; rfl⟩, hn, hc⟩
theorem own_bs {w : World} {base : Nat} {v : Value} {l : List UInt8} (h : w.ownsRow base 5 1 v l.length (u8s l)) : ∃ A cap, v = .slice A l.length cap ∧ Bs w A cap l := row_sl h

theorem Fr.of_grown {w w' : World} {row : Option Nat} (h : w.grownBy w' row) : Fr row.toList w w' :=
  ⟨h.os, h.tape, h.output, h.size, fun k hk hn => h.block k hk fun e => hn (by rw [← e]; simp)⟩
theorem own_base {w : World} {base base' : Nat} {e : TypeId} {k : Nat} {v : Value} {n : Nat} {xs : List Value} (h : w.ownsRow base e k v n xs) (hb : base' ≤ base) : w.ownsRow base' e k v n xs := by
  refine ⟨h.1, ?_⟩
  rcases h.2 with hn | ⟨g, cap, cur, rfl, hg, rest⟩
  · exact .inl hn
  · exact .inr ⟨g, cap, cur, rfl, Nat.le_trans hb hg, rest⟩

theorem own_keep {w w' : World} {base : Nat} {e : TypeId} {k : Nat} {v : Value} {n : Nat} {xs : List Value} (h : w.ownsRow base e k v n xs) (hk : ∀ (g : Nat) (cs : Array Value), w.heap[g]? = some (.cells cs e (0, 0)) → w'.heap[g]? = some (.cells cs e (0, 0))) : w'.ownsRow base e k v n xs := by
  refine ⟨h.1, ?_⟩
  rcases h.2 with hn | ⟨g, cap, cur, rfl, hb, hg, rest⟩
  · exact .inl hn
  · exact .inr ⟨g, cap, cur, rfl, hb, hk g cur hg, rest⟩
theorem own_blk {w : World} {base : Nat} {e : TypeId} {k : Nat} {v : Value} {n : Nat} {xs : List Value} (h : w.ownsRow base e k v n xs) : ∀ b, v.ownBlock = some b → base ≤ b ∧ ∃ cur, w.heap[b]? = some (.cells cur e (0, 0)) := by
  intro b hb
  rcases h.2 with ⟨rfl, _⟩ | ⟨g, cap, cur, rfl, h1, hg, _⟩
  · simp [Value.ownBlock] at hb
  · simp [Value.ownBlock] at hb
    subst hb
    exact ⟨h1, cur, hg⟩
theorem num_any (n : Int) (w : World) : Calls Tryd.prog 12 #[.int .i64 n] w fun e w' => e = .returned (.int .i64 n) ∧ w = w' := by
  go_enter Tryd.func12, Tryd.ntmps12
  go_wp2
  go_ret
  exact ⟨rfl, rfl⟩

def SameRel (x y : List UInt8) (w : World) (i : Value) (wr : World) : Prop := ∃ k : Nat, k ≤ x.length ∧ i = .int .i64 k ∧ x.take k = y.take k ∧ ∃ n, wr = w.drewN n

theorem same_any (x y : List UInt8) (A1 A2 : Option Addr) (c1 c2 : Nat) (w : World) (h1 : Bs w A1 c1 x) (h2 : Bs w A2 c2 y) :
    Calls Tryd.prog 25 #[.slice A1 x.length c1, .slice A2 y.length c2] w fun e w' => e = .returned (.bool (x == y)) ∧ ∃ n, w' = w.drewN n := by
  have hx := h1.len_le
  have hy := h2.len_le
  have H1 := Lib.hid h1
  have H2 := Lib.hid h2
  clear h1 h2
  by_cases hl : x.length = y.length
  · have Hl := Lib.hid hl
    clear hl
    have hb : ((x.length : Int) != y.length) = false := by simp [Hl.out]
    go_enter Tryd.func25, Tryd.ntmps25
    go_wp2
    go_loopw [5] (fun i wr => SameRel x y w i wr) (fun i _ => x.length - (intOf i).toNat)
    case atStart => exact ⟨0, by omega, rfl, rfl, 0, rfl⟩
    case round =>
      obtain ⟨k, hk, rfl, hkk, n, rfl⟩ := hrel
      have Hkk := Lib.hid hkk
      clear hkk
      by_cases hlt : k < x.length
      · have hlt2 : k < y.length := by have := Hl.out; omega
        obtain ⟨b1, o1, rfl, g1⟩ := H1.out.at_ hlt
        obtain ⟨b2, o2, rfl, g2⟩ := H2.out.at_ hlt2
        obtain ⟨p, hp⟩ : ∃ p, p = x.getD k 0 := ⟨_, rfl⟩
        obtain ⟨q, hq⟩ : ∃ q, q = y.getD k 0 := ⟨_, rfl⟩
        rw [← hp] at g1
        rw [← hq] at g2
        have Hp := Lib.hid hp
        have Hq := Lib.hid hq
        clear hp hq
        by_cases he : p = q
        · subst he
          go_wp2_with fail
          go_quiet (fail)
          go_wp2
          go_roundw
          case rel =>
            refine ⟨k+1, by omega, by go_num, ?_, _, rfl⟩
            rw [take_succ_getD hlt, take_succ_getD hlt2, Hkk.out, ← Hp.out, ← Hq.out]
          case measure => simp [intOf]; omega
        · have hd : ((p.toNat : Int) != q.toNat) = true := by
            rw [bne_iff_ne]; intro h; apply he; exact UInt8.toNat_inj.1 (by omega)
          have He := Lib.hid he
          clear he
          go_wp2_with fail
          go_quiet (fail)
          go_wp2
          go_ret
          refine ⟨ret_bool ?_, n + nq, World.drewN_drewN _ _ _⟩
          symm; rw [beq_eq_false_iff_ne]; rintro rfl; exact He.out (Hp.out.trans Hq.out.symm)
      · go_wp2
        go_ret
        have hkx : k = x.length := by omega
        refine ⟨ret_bool ?_, _, rfl⟩
        have h3 := Hkk.out
        have h4 := Hl.out
        rw [List.take_of_length_le (by omega), List.take_of_length_le (by omega)] at h3
        simp [h3]
  · have hb : ((x.length : Int) != y.length) = true := by rw [bne_iff_ne]; omega
    have Hl := Lib.hid hl
    clear hl
    go_enter Tryd.func25, Tryd.ntmps25
    go_wp2
    go_ret
    refine ⟨ret_bool ?_, 0, rfl⟩
    symm; rw [beq_eq_false_iff_ne]; rintro rfl; exact Hl.out rfl

theorem infoU8 : (Tryd.prog.info? 5).map (fun i => (i.zero, i.size, i.bytes)) = some (some (.int .u8 0), 1, 1) := by kernel_rfl

/-- what fresh hands back -/
def FreshPost (x : List UInt8) (w : World) (e : Ending) (w' : World) : Prop :=
  ∃ g, e = .returned (.slice (some ⟨g, 0, none⟩) x.length x.length) ∧ w'.heap[g]? = some (.cells (u8s x).toArray 5 (0, 0)) ∧ w.heap.size ≤ g ∧ Below w.heap.size w w'

theorem fresh_any (x : List UInt8) (A : Option Addr) (c : Nat) (w : World) (hx : x.length ≤ 140737488351232) (h1 : Bs w A c x) :
    Calls Tryd.prog 38 #[.slice A x.length c] w (FreshPost x w) := by
  have H1 := Lib.hid h1
  clear h1
  obtain ⟨i0, hi0, hz0, hz1, hz2⟩ := info_parts infoU8
  go_enter Tryd.func38, Tryd.ntmps38
  go_wp2_with (first | (at_make; refine wpList_make_own _ rfl _ _ 22 rfl w.heap.size 5 i0 (.int .u8 0) 1 Tryd.underlying22 hi0 hz0 hz1 _ _ _ x.length rfl rfl rfl ?hby ?hml ?hba ?_))
  case hby => rw [hz2]; omega
  case hml => simp [maxLen]; omega
  case hba => exact Nat.le_refl _
  intro w1 hown hgrow
  go_wp2_with (first | (at_builtin; refine wpList_append_fits_any _ rfl _ _ 22 rfl w.heap.size 5 i0 1 Tryd.underlying22 hi0 hz1 w.heap.size 0 x.length [] rfl hown A x.length c (u8s x) rfl ?hl ?hn ?hc ?h1c ?hb ?_))
  case hl => simp [u8s]
  case hn => exact fun hA => H1.out.nil hA
  case hc =>
    intro ad hA j u hu
    have hj : j < x.length := by have := (List.getElem?_eq_some_iff.1 hu).1; simpa [u8s] using this
    obtain ⟨b, o, hbo, hcell⟩ := H1.out.cells (by omega)
    have : ad = ⟨b, o, none⟩ := Option.some.inj (hA.symm.trans hbo)
    subst this
    have h2 := (hcell j (by omega)).trans hu
    have h3 : w1.cell? ⟨b, o + j, none⟩ = some u := hgrow.cell h2 (by simp)
    by_cases hj0 : j = 0
    · subst hj0; simpa [Addr.add] using h3
    · simpa [Addr.add, hj0] using h3
  case h1c => exact u8s_one x
  case hb => omega
  intro w2 hown2 hgrow2
  go_wp2
  go_ret
  refine ⟨w.heap.size, rfl, ?_, Nat.le_refl _, ?_⟩
  · obtain ⟨_, h | ⟨g, cap, cur, hv, _, hh, _, _, hsz, htk⟩⟩ := hown2
    · simp at h
    · simp only [Value.slice.injEq, Option.some.injEq, Addr.mk.injEq] at hv
      obtain ⟨⟨rfl, _⟩, _, rfl⟩ := hv
      have he : cur = (u8s x).toArray := by rw [← htk, List.take_of_length_le (by simp [hsz])]
      rw [hh, he]
  · exact (((Below.refl _ _).grown hgrow (Nat.le_refl _) (by simp)).grown hgrow2 hgrow.size (by intro k hk; cases hk; exact Nat.le_refl _))
theorem fresh_at (x : List UInt8) (A : Option Addr) (len c : Nat) (w : World) (hlen : len = x.length) (hx : x.length ≤ 140737488351232) (h1 : Bs w A c x) :
    Calls Tryd.prog 38 #[.slice A len c] w (FreshPost x w) := by
  subst hlen
  exact fresh_any x A c w hx h1
theorem str_of_bs {w : World} {A : Option Addr} {c : Nat} {l : List UInt8} (h : Bs w A c l) : (convert 22 9 (.slice A l.length c)).run Tryd.prog w = .ok (.string ⟨l.toArray⟩) w := by
  cases l with
  | nil => exact run_convert_bytes_zero w 22 5 Tryd.underlying22 Tryd.underlying5 A c 9 Tryd.underlying9
  | cons x r =>
    obtain ⟨b, o, rfl, hx⟩ := h.cells (by simp)
    refine run_convert_bytes_back (P := Tryd.prog) w 22 9 5 ⟨b, o, none⟩ c (x :: r) Tryd.underlying22 Tryd.underlying5 Tryd.underlying9 fun j hj => ?_
    rw [Addr.add_lit, hx j (by omega), u8s_at hj]
    rw [List.getD_eq_getElem?_getD, List.getElem?_eq_getElem hj]
    rfl
/-- a slice of bytes cut -/
theorem Bs.cut {w : World} {A : Option Addr} {bb oo c i m : Nat} {l : List UInt8} (h : Bs w A c l) (hA : A = some ⟨bb, oo, none⟩) (him : i + m ≤ l.length) : Bs w (some ⟨bb, oo + i, none⟩) (c - i) ((l.drop i).take m) := by
  have hl := h.le
  have hbig := h.big
  have e : ((l.drop i).take m).length = m := by simp; omega
  refine ⟨by simp [u8s], by simp, by omega, by omega, fun hn => ⟨bb, oo + i, rfl, fun j hj => ?_⟩⟩
  rw [e] at hn hj
  obtain ⟨b2, o2, he, hx⟩ := h.cells (by omega)
  rw [hA] at he
  cases he
  rw [Nat.add_assoc, hx (i + j) (by omega), u8s_at (by omega), u8s_at (by omega)]
  simp [List.getD_eq_getElem?_getD, show j < m by omega]
/-- where 'b[l:]' begins -/
def cutA (A : Option Addr) (c l : Nat) : Option Addr := if c = l then A else A.map (·.add (l * 1))
theorem slice_lo (A : Option Addr) (n c l : Nat) (h : l ≤ n) (w : World) : (Instr.slice 22 (.slice A n c) (some (.int .i64 (l : Int))) none none).run Tryd.prog w = .ok (.slice (cutA A c l) (n - l) (c - l)) w := by
  have e : Tryd.prog.elem 22 = 5 := by kernel_rfl
  have ht : Tryd.prog.underlying 22 = some (.slice (Tryd.prog.elem 22)) := by rw [e]; exact Tryd.underlying22
  obtain ⟨i0, hi0, hz0, hz1, hz2⟩ := info_parts infoU8
  rw [run_slice_l (w := w) (ht := ht) (kl := .i64) (h0 := by omega) (h1 := by omega), e]
  simp [sizeOf, typeInfo, hi0, hz1, sliced, cutA]
theorem Bs.tail {w : World} {A : Option Addr} {c l : Nat} {L : List UInt8} (h : Bs w A c L) (hl : l ≤ L.length) : Bs w (cutA A c l) (c - l) (L.drop l) := by
  have h1 := h.le
  have h2 := h.big
  refine ⟨by simp [u8s], ?_, by simp; omega, by omega, fun hn => ?_⟩
  · intro hA
    unfold cutA at hA
    split at hA
    · rename_i e
      simp; omega
    · cases A with
      | none => have := h.nil rfl; simp; omega
      | some a => simp at hA
  · rw [List.length_drop] at hn
    obtain ⟨b, o, rfl, hx⟩ := h.cells (by omega)
    refine ⟨b, o + l, ?_, fun j hj => ?_⟩
    · unfold cutA
      rw [if_neg (by omega)]
      simp [Addr.add]
    · rw [List.length_drop] at hj
      rw [Nat.add_assoc, hx (l + j) (by omega), u8s_at (by omega), u8s_at (by simp; omega)]
      simp [List.getD_eq_getElem?_getD]
theorem own_of_block {w : World} {g base : Nat} {xs : List Value} {t : TypeId} (hb : base ≤ g) (h : w.heap[g]? = some (.cells xs.toArray t (0, 0))) (hm : xs.length ≤ maxLen) : w.ownsRow base t 1 (.slice (some ⟨g, 0, none⟩) xs.length xs.length) xs.length xs :=
  ⟨by simp, .inr ⟨g, xs.length, xs.toArray, rfl, hb, h, Nat.le_refl _, hm, by simp, by simp⟩⟩
def lenOf : Value → Nat
  | .slice _ n _ => n
  | _ => 0
theorem one_cell (n : Int) : ∀ u ∈ [Value.int .u8 n], u.oneCell' = true := by
  intro u hu
  simp only [List.mem_singleton] at hu
  subst hu
  rfl
end Go.Proofs.YtaolddgnannojaaDoor
