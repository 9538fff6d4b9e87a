/-
  The URLs that were requested, sorted.
-/
import Derived.Test.YtpblaclhfcomeaaTotal
import Derived.Test.YtpblaclhfcomeaaIter
import Derived.Sort.KeysCollected
namespace Go.Proofs.Ytpblaclhfcomeaa
open Go.RowKit Go.Maps Go.MuLone Go.ChangeMaps Go.MapKept

attribute [local go_sem] lt1 lt2 lt3 lt4 lt5 lt6

/-- an element of which nothing is read -/
def NoRead (_ : Value) : Option (DataW Unit × List MemPlace) := some (.nil, [])
/-- the names that were asked, each as its bytes -/
def names (S : NetSt) : List (List UInt8) := S.asked.map fun p => p.1.data.toList

theorem all2_names : ∀ {l : List MapEntry} {m : List (ByteArray × Nat)}, All2 (fun e x => e.key = StrKey x.1 ∧ RAsk e.val x.2) l m → (∀ e ∈ l, ∃ kl, keyOf Try.prog 9 e.key = some kl) →
    (l.map (Go.WideElems.rg Try.prog 9 NoRead)).map (fun p => strOf p.1) = m.map fun p => p.1.data.toList
  | [], [], _, _ => rfl
  | [], _ :: _, h, _ => h.elim
  | _ :: _, [], h, _ => h.elim
  | e :: l, x :: m, h, hk => by
    have ih := all2_names h.2 fun f hf => hk f (by simp [hf])
    obtain ⟨kl, hkl⟩ := hk e (by simp)
    obtain ⟨y, h1, h2, _⟩ := Maps.keyOf_str Try.underlying9 hkl
    have hx : x.1.data.toList = y := by
      have := h.1.1.symm.trans h1
      unfold StrKey encStr at this
      simp only [Value.string.injEq] at this
      rw [this]
    have hr : Go.WideElems.rd Try.prog 9 NoRead e = some (.string y, .nil) := by
      unfold Go.WideElems.rd NoRead
      rw [hkl, h2]
      rfl
    simp only [List.map_cons]
    rw [ih, Go.WideElems.rg_of hr, hx]
    rfl

/-- the map of the requests, as the sort of the keys takes it -/
theorem NetAt.owns {w : World} {nb pb fb ab : Nat} {s : Int} {S : NetSt} (h : NetAt w nb pb fb ab s S) (hl : S.asked.length ≤ 1048576) :
    ∃ n D, w.ownsMap Try.prog 9 NoRead ab n D ∧ size D = S.asked.length ∧ (strKeys D).Perm (names S) := by
  obtain ⟨o, hb, es, clock, rfl, hst, hal, hkeys⟩ := h.asked
  have hlen := hal.length
  refine ⟨es.size, _, ⟨es, clock, hb, ⟨?_, hst, fun x hx => ?_⟩, Nat.le_refl _, rfl⟩, ?_, ?_⟩
  · have : es.size = S.asked.length := by simpa using hlen
    unfold maxLen; omega
  · obtain ⟨kl, hk⟩ := hkeys x hx
    exact ⟨(kl, .nil), by unfold Go.WideElems.rd NoRead; rw [hk]; rfl⟩
  · show (List.foldr DataW.insert [] _).length = _
    rw [length_sorted]
    simpa using hlen
  · show ((List.foldr DataW.insert [] _).map fun p => strOf p.1).Perm _
    refine ((Go.WideShapes.sorted_perm _).map _).trans ?_
    rw [all2_names hal hkeys]
    exact List.Perm.refl _

def UrlsPost (w : World) (nb pb fb ab : Nat) (S : NetSt) (e : Ending) (w' : World) : Prop :=
  ∃ (v : Value) (ss : List (List UInt8)), e = .returned v ∧ ss.Perm (names S) ∧ ss.Pairwise (fun x y => x ≤ y) ∧ w'.ownsRow w.heap.size 9 1 v ss.length (ss.map Go.Proofs.encStr) ∧ NetAt w' nb pb fb ab 0 S ∧ Fr [] w w'

theorem sorted_le (l : List (List UInt8)) : (l.mergeSort (fun x y => decide (x ≤ y))).Pairwise (fun x y => x ≤ y) := by
  have tr : ∀ a b c : List UInt8, decide (a ≤ b) = true → decide (b ≤ c) = true → decide (a ≤ c) = true := fun a b c h1 h2 => by simp only [decide_eq_true_eq] at *; exact List.le_trans h1 h2
  have to : ∀ a b : List UInt8, (decide (a ≤ b) || decide (b ≤ a)) = true := fun a b => by simp only [Bool.or_eq_true, decide_eq_true_eq]; exact List.le_total a b
  refine (List.pairwise_mergeSort tr to l).imp fun {a b} h => by simpa using h

set_option maxHeartbeats 1000000 in
theorem urls_any (w : World) (nb pb fb ab : Nat) (S : NetSt) (h : NetAt w nb pb fb ab 0 S) (hl : S.asked.length ≤ 1048576) :
    Calls Try.prog 13 #[.pointer (some ⟨nb, 0, none⟩)] w (UrlsPost w nb pb fb ab S) := by
  have H := Lib.hid h
  clear h
  go_enter_defers Try.func13, Try.ntmps13
  go_wp2_with fail
  refine (lock_at _ H.out).mono ?_
  rintro e w1 ⟨rfl, h1, F1⟩
  have c1 := blk_cells h1.blk
  have H1 := Lib.hid h1
  have HF1 := Lib.hid F1
  clear h1 F1
  obtain ⟨n, D, hown, hsz, hperm⟩ := H1.out.owns hl
  have Hown := Lib.hid hown
  have Hperm := Lib.hid hperm
  clear hown hperm
  go_wp2_with fail
  refine (callsIn_wide.1 (Try.maps_Keys_36 (some ab) w1)).mono ?_
  rintro e w2 ⟨rfl, rfl⟩
  go_wp2_with fail
  refine (callsIn_wide.1 (Try.slices_Sorted_keys_35_36 ab n D NoRead w1 Hown.out (by rw [hsz]; unfold maxLen; omega) (by rw [hsz]; omega))).mono ?_
  rintro e w3 ⟨v, ss, rfl, hS, hrow, hnil, hb⟩
  have hB : Below w1.heap.size w1 w3 := ((Below.refl _ w1).alloc (Nat.le_refl _) _).trans (hb.mono (by simp))
  have HB := Lib.hid hB
  have Hrow := Lib.hid hrow
  clear hb hrow hB hnil
  go_wp2_with fail
  refine leaves_cons (f := 33) (args := #[.pointer (some ⟨nb, 0, none⟩)]) (by simp) (by simp [go_sem]) ?_
  refine (unlock_at .returning _ (H1.out.below HB.out)).mono ?_
  rintro e u' w6 ⟨rfl, rfl, h6, F6⟩
  have hss : (ss.mergeSort (fun x y => decide (x ≤ y))).Perm ss := List.mergeSort_perm _ _
  refine ⟨v, (results_tmp (t := 2) rfl _ _ _).trans rfl, v, ss.mergeSort (fun x y => decide (x ≤ y)), rfl, (hss.trans hS).trans Hperm.out, sorted_le _, ?_, h6, Fr.drop1 (n := nb) ((HF1.out.trans (Fr.of_below HB.out _)).trans F6) (h6.blk.trans H.out.blk.symm)⟩
  rw [hss.length_eq]
  obtain ⟨e1, e2⟩ := Hrow.out
  refine ⟨e1, ?_⟩
  rcases e2 with e2 | ⟨g, cap, cur, q1, q2, q3, q4⟩
  · exact Or.inl e2
  · have hs1 := HF1.out.size
    have hn := H1.out.lt nb (by simp)
    simp at q2
    exact Or.inr ⟨g, cap, cur, q1, by omega, (F6.block g (lt_of_heap q3) (by simp; omega)).trans q3, q4⟩
end Go.Proofs.Ytpblaclhfcomeaa
