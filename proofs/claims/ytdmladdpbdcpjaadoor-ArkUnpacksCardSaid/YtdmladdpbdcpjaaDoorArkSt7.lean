/-
  Files by their names, the package's: any files with unlike names. (Printed by wip/abexp.py.)
-/
import Derived.Test.YtdmladdpbdcpjaaDoorArkSt6
namespace Go.Proofs.YtdmladdpbdcpjaaDoor
open Go.RowKit

set_option linter.unusedSimpArgs false

attribute [local go_sem] lt1 lt2 lt3 lt4 lt5 lt6

def toR : List Value → FlR
  | [.string s, .slice a n c] => ⟨s, a, n, c⟩
  | _ => ⟨⟨#[]⟩, none, 0, 0⟩
theorem toR_of {w : World} {c : List Value} {p : Fl} (h : CFl w c p) : (toR c).nm = p.1 ∧ c = [.string (toR c).nm, (toR c).sl] ∧ (toR c).n = p.2.length ∧ Bs w (toR c).ad (toR c).c p.2 := by
  obtain ⟨A, k, rfl, h2⟩ := h
  exact ⟨rfl, rfl, rfl, h2⟩
theorem all2_at {α β : Type} {Q : α → β → Prop} {l : List α} {m : List β} (h : All2 Q l m) {i : Nat} {a : α} (hi : l[i]? = some a) : ∃ b, m[i]? = some b ∧ Q a b := by
  have hl := h.length
  have hil : i < m.length := by rw [← hl]; exact (List.getElem?_eq_some_iff.1 hi).1
  obtain ⟨a', h1, h2⟩ := h.at_ (List.getElem?_eq_getElem hil)
  rw [hi] at h1
  cases h1
  exact ⟨_, List.getElem?_eq_getElem hil, h2⟩
/-- a row of files that was made, as a function of the places -/
theorem rw_of {w w1 : World} {base : Nat} {A : Option Addr} {n : Nat} {cs : List (List Value)} {l : List Fl} (hcs : All2 (CFl w) cs l) (hn : n = l.length) (ho : w1.ownsRow base 46 2 (.slice A n n) n cs.flatten) (hA : A ≠ none) :
    ∃ g, A = some ⟨g, 0, none⟩ ∧ base ≤ g ∧ Rw w1 g n (fun i => toR (cs.getD i [])) := by
  obtain ⟨_, h | ⟨g, cap, cur, hv, hb, hh, _, _, hsz, htk⟩⟩ := ho
  · simp at h; first | exact absurd h.1.1 hA | exact absurd h.1 hA
  · simp only [Value.slice.injEq] at hv
    obtain ⟨rfl, _, rfl⟩ := hv
    refine ⟨g, rfl, hb, cur, hh, hsz, fun i hi => ?_⟩
    have hck : ∀ c ∈ cs, c.length = 2 := hcs.forall_left fun c p hh => hh.len
    have hil : i < cs.length := by rw [hcs.length, ← hn]; exact hi
    have hci : cs[i]? = some cs[i] := List.getElem?_eq_getElem hil
    obtain ⟨p, _, hp⟩ := all2_at hcs hci
    obtain ⟨_, h2, _⟩ := toR_of hp
    have hg : cs.getD i [] = cs[i] := by simp [List.getD_eq_getElem?_getD, hil]
    have e : ∀ j, j < 2 → cur[i * 2 + j]? = cs[i][j]? := fun j hj => by
      have := flat_at hck hci hj
      rw [← htk, List.getElem?_take_of_lt (by omega)] at this
      rw [← this]
      simp
    show cur[i * 2]? = some (.string (toR (cs.getD i [])).nm) ∧ cur[i * 2 + 1]? = some (toR (cs.getD i [])).sl
    rw [hg]
    have e0 := e 0 (by omega)
    have e1 := e 1 (by omega)
    rw [h2] at e0 e1
    exact ⟨by simpa using e0, by simpa using e1⟩
theorem rw_back {w2 : World} {base g n : Nat} {f : Nat → FlR} {cs : List (List Value)} (hr : Rw w2 g n f) (hb : base ≤ g) (hm : n ≤ maxLen) (hcs : cs = (List.range n).map fun i => [.string (f i).nm, (f i).sl]) :
    w2.ownsRow base 46 2 (.slice (some ⟨g, 0, none⟩) n n) n cs.flatten := by
  obtain ⟨cur, h1, h2, h3⟩ := hr
  have h2l : ∀ c ∈ cs, c.length = 2 := by rw [hcs]; intro c hc; obtain ⟨i, _, rfl⟩ := List.mem_map.1 hc; rfl
  have hcl : cs.length = n := by rw [hcs]; simp
  refine ⟨?_, .inr ⟨g, n, cur, rfl, hb, h1, Nat.le_refl _, hm, h2, ?_⟩⟩
  · rw [flat_len h2l, hcl]
  · apply List.ext_getElem?
    intro j
    by_cases hj : j < n * 2
    · rw [List.getElem?_take_of_lt hj]
      have hi : j / 2 < n := by omega
      have hf := flat_at h2l (i := j / 2) (c := [Value.string (f (j / 2)).nm, (f (j / 2)).sl]) (by rw [hcs, List.getElem?_map, List.getElem?_range hi]; rfl) (j := j % 2) (by omega)
      rw [show j / 2 * 2 + j % 2 = j by omega] at hf
      rw [hf]
      obtain ⟨k1, k2⟩ := h3 (j / 2) hi
      rcases (by omega : j % 2 = 0 ∨ j % 2 = 1) with e | e
      · rw [Array.getElem?_toList, e]
        generalize hq : j / 2 = q at *
        rw [show j = q * 2 by omega]
        exact k1
      · rw [Array.getElem?_toList, e]
        generalize hq : j / 2 = q at *
        rw [show j = q * 2 + 1 by omega]
        exact k2
    · rw [List.getElem?_eq_none (by simp; omega), List.getElem?_eq_none]
      rw [flat_len h2l, hcl]
      omega
/-- what the sort leaves, as a list -/
theorem sorted_list {n : Nat} {f f' : Nat → FlR} {l : List Fl} (hn : n = l.length) (hf : ∀ i, i < n → (f i).nm = (l.getD i noFl).1) (hm : Mv 0 n f f') (hs : Srt ltR 0 n f') (hd : ∀ a ∈ l, ∀ b ∈ l, a.1 = b.1 → a = b) :
    ∃ s : Nat → Nat, (∀ i, i < n → s i < n) ∧ (∀ i, i < n → f' i = f (s i)) ∧ (List.range n).map (fun i => l.getD (s i) noFl) = byName l := by
  obtain ⟨s, t, h1, h2, h3, h4⟩ := hm
  have hlt : ∀ i, i < n → s i < n := fun i hi => by
    rcases Nat.lt_or_ge (s i) n with hh | hh
    · exact hh
    · have h5 := congrArg t (h3 (s i) (.inr hh))
      rw [h2, h2] at h5
      omega
  refine ⟨s, hlt, fun i _ => h4 i, ?_⟩
  have hp : ((List.range n).map (fun i => l.getD (s i) noFl)).Perm l := by
    have h5 : Mv 0 n (fun i => l.getD i noFl) (fun i => l.getD (s i) noFl) := ⟨s, t, h1, h2, h3, fun i => rfl⟩
    have := h5.perm
    rw [show (List.range n).map (fun i => l.getD i noFl) = l by rw [hn]; exact range_getD l noFl] at this
    exact this
  refine sorted_unique hd hp ?_
  unfold SrtL
  have hs' : Srt ltF 0 n (fun i => l.getD (s i) noFl) := fun i j hi hij hj => by
    have := hs i j hi hij hj
    unfold ltR at this
    rw [h4 j, h4 i, hf _ (hlt j hj), hf _ (hlt i (by omega))] at this
    exact this
  exact hs'.pairwise
def RqPost (w : World) (l : List Fl) (Q : List Value → Fl → Prop) (e : Ending) (w' : World) : Prop :=
  ∃ v, e = .returned v ∧ (∃ cs', All2 Q cs' (byName l) ∧ w'.ownsRow w.heap.size 46 2 v l.length cs'.flatten) ∧ Below w.heap.size w w'
set_option maxHeartbeats 2000000 in
set_option maxRecDepth 100000 in
theorem rising_q (w : World) (A : Option Addr) (c n : Nat) (l : List Fl) (hln : n = l.length) (Q : List Value → Fl → Prop) (hQ : ∀ c p, Q c p → CFl w c p) (cs : List (List Value)) (hqs : All2 Q cs l) (hcell : ∀ ad, A = some ad → ∀ j u, cs.flatten[j]? = some u → w.cell? (ad.add j) = some u) (hf : FlAt w A c l) (hl : l.length ≤ 1048576) (hd : ∀ a ∈ l, ∀ b ∈ l, a.1 = b.1 → a = b) :
    Calls Tryd.prog 48 #[.slice A n c] w (RqPost w l Q) := by
  subst hln
  obtain ⟨i0, hi0, hz0, hz1, hz2⟩ := info_parts infoFile
  have hcs : All2 (CFl w) cs l := hqs.mono hQ
  have Hqs := Lib.hid hqs
  clear hqs
  have hck : ∀ c ∈ cs, c.length = 2 := hcs.forall_left fun c p hh => hh.len
  have hclen : cs.flatten.length = l.length * 2 := by rw [flat_len hck, hcs.length]
  have hone := cells_one hcs
  have Hf := Lib.hid hf
  have Hcs := Lib.hid hcs
  have Hcell := Lib.hid hcell
  have Hclen := Lib.hid hclen
  have Hone := Lib.hid hone
  have Hd := Lib.hid hd
  clear hf hcs hcell hck hclen hone hd
  go_enter Tryd.func48, Tryd.ntmps48
  go_wp2_with (first | (at_make; refine wpList_make_own _ rfl _ _ 22 rfl w.heap.size 46 i0 (.agg #[.string ⟨#[]⟩, .slice none 0 0]) 2 Tryd.underlying22 hi0 hz0 hz1 _ _ _ l.length rfl rfl rfl ?hby ?hml ?hba ?_))
  case hby => rw [hz2]; omega
  case hml => simp [maxLen]; omega
  case hba => exact Nat.le_refl _
  intro w1 hown hgrow
  go_wp2_with (first | (at_builtin; refine wpList_append_fits_any _ rfl _ _ 22 rfl w.heap.size 46 i0 2 Tryd.underlying22 hi0 hz1 w.heap.size 0 l.length [] rfl hown A l.length c cs.flatten rfl ?hl ?hn ?hc ?h1c ?hb ?_))
  case hl => exact Hclen.out
  case hn => exact fun hA => by obtain ⟨h1, h2⟩ := Hf.out.nil hA; exact ⟨by rw [h1]; rfl, h2⟩
  case hc => exact fun ad hA j u hu => hgrow.cell (Hcell.out ad hA j u hu) (by simp)
  case h1c => exact Hone.out
  case hb => omega
  intro w2 hown2 hgrow2
  have hb2 : Below w.heap.size w w2 := (((Below.refl _ _).grown hgrow (Nat.le_refl _) (by simp)).grown hgrow2 hgrow.size (by intro k hk; cases hk; exact Nat.le_refl _))
  have hown3 : w2.ownsRow w.heap.size 46 2 (.slice (some ⟨w.heap.size, 0, none⟩) l.length l.length) l.length cs.flatten := by simpa using hown2
  obtain ⟨g, hg, hbg, hr⟩ := rw_of Hcs.out rfl hown3 (by simp)
  simp only [Option.some.injEq, Addr.mk.injEq] at hg
  obtain ⟨rfl, _⟩ := hg
  have Hr := Lib.hid hr
  have Hb2 := Lib.hid hb2
  clear hown hgrow hown2 hgrow2 hb2 hown3 hr hbg
  go_wp2_with fail
  refine (sort_any _ _ l.length _ Hr.out hl).mono ?_
  rintro e w3 ⟨rfl, f', hm, hs, hr3, hf3⟩
  have hb3 : Below w.heap.size w w3 := Hb2.out.trans (hf3.below (B := w.heap.size) Hb2.out.size (fun k hk => by rw [List.mem_singleton.1 hk]; exact Nat.le_refl _))
  have Hfin : Hid (∃ cs', All2 Q cs' (byName l) ∧ w3.ownsRow w.heap.size 46 2 (.slice (some ⟨w.heap.size, 0, none⟩) l.length l.length) l.length cs'.flatten) := Lib.hid (by
    have hat : ∀ i, i < l.length → CFl w (cs.getD i []) (l.getD i noFl) := fun i hi => by
      have hil : i < cs.length := by rw [Hcs.out.length]; exact hi
      have hci : cs[i]? = some cs[i] := List.getElem?_eq_getElem hil
      obtain ⟨p, hp1, hp2⟩ := all2_at Hcs.out hci
      have h1 : cs.getD i [] = cs[i] := by simp [List.getD_eq_getElem?_getD, hil]
      have h2 : l.getD i noFl = p := by rw [List.getD_eq_getElem?_getD, hp1]; rfl
      rw [h1, h2]
      exact hp2
    obtain ⟨s, hs1, hs2, hs3⟩ := sorted_list (f := fun i => toR (cs.getD i [])) rfl (fun i hi => (toR_of (hat i hi)).1) hm hs Hd.out
    refine ⟨(List.range l.length).map fun i => cs.getD (s i) [], ?_, rw_back hr3 (Nat.le_refl _) (by unfold maxLen; omega) (List.map_congr_left fun i hi => ?_)⟩
    · rw [← hs3]
      refine all2_of (by simp) fun i a b ha hb' => ?_
      have hi : i < l.length := by have := (List.getElem?_eq_some_iff.1 ha).1; simpa using this
      rw [List.getElem?_map, List.getElem?_range hi] at ha hb'
      simp only [Option.map_some, Option.some.injEq] at ha hb'
      have hsi := hs1 i hi
      have hil : s i < cs.length := by rw [Hqs.out.length]; exact hsi
      have hci : cs[s i]? = some cs[s i] := List.getElem?_eq_getElem hil
      obtain ⟨p, hp1, hp2⟩ := all2_at Hqs.out hci
      have h1 : cs.getD (s i) [] = cs[s i] := by simp [List.getD_eq_getElem?_getD, hil]
      have h2 : l.getD (s i) noFl = p := by rw [List.getD_eq_getElem?_getD, hp1]; rfl
      rw [← ha, ← hb', h1, h2]
      exact hp2
    · rw [hs2 i (List.mem_range.1 hi)]
      exact (toR_of (hat (s i) (hs1 i (List.mem_range.1 hi)))).2.1)
  have Hb3 := Lib.hid hb3
  clear hm hs hr3 hf3 hb3 Hr
  go_wp2_with fail
  go_ret
  exact ⟨_, rfl, Hfin.out, Hb3.out⟩
theorem rising_any (w : World) (A : Option Addr) (c : Nat) (l : List Fl) (hf : FlAt w A c l) (hl : l.length ≤ 1048576) (hd : ∀ a ∈ l, ∀ b ∈ l, a.1 = b.1 → a = b) :
    Calls Tryd.prog 48 #[.slice A l.length c] w (BnPost w (byName l)) := by
  obtain ⟨cs, hcs, hcell⟩ := hf.row
  refine (rising_q w A c l.length l rfl (CFl w) (fun _ _ h => h) cs hcs hcell hf hl hd).mono fun e w' h => ?_
  obtain ⟨v, he, ⟨cs', h1, h2⟩, hb⟩ := h
  exact ⟨v, he, ⟨cs', h1.mono fun _ _ h => h.keep (Cells.of_below hb), by rw [byName_length]; exact h2⟩, hb⟩
end Go.Proofs.YtdmladdpbdcpjaaDoor
