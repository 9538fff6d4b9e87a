/-
  The network: Set.
-/
import Derived.Test.YtpblaclhfcomeaaLent
namespace Go.Proofs.Ytpblaclhfcomeaa
open Go.RowKit Go.Maps Go.MuLone Go.ChangeMaps Go.MapKept

attribute [local go_sem] lt1 lt2 lt3 lt4 lt5 lt6

theorem NetAt.page_putR {w : World} {nb pb fb ab : Nat} {s : Int} {S : NetSt} (h : NetAt w nb pb fb ab s S) {R : Value → List UInt8 → Prop} (hR : ∀ v d, R v d → RPage w v d) {o1 : Obj} (h1 : w.heap[pb]? = some o1) (T : TMap Try.prog 9 o1 StrKey R S.pages) (u : ByteArray) (d : List UInt8) (hu : u.size ≤ maxLen) (v : Value) (hv : RPage w v d) :
    ∃ w', (Instr.mapUpdate 70 (.map (some pb)) (.string u) v).run Try.prog w = .ok () w' ∧ NetAt w' nb pb fb ab s { S with pages := put S.pages u d } ∧ Fr [pb] w w' ∧
      ∃ o', w'.heap[pb]? = some o' ∧ TMap Try.prog 9 o' StrKey (fun v' d' => R v' d' ∨ (v' = v ∧ d' = d)) (put S.pages u d) := by
  obtain ⟨o', hrun, hT⟩ := T.update str_law Try.underlying70 strKey_inj (str_key hu) v
  have hf : Fr [pb] w (ChangeMaps.setBlock w pb o') := Fr.setBlock _ _ _ _ (by simp)
  refine ⟨_, hrun w pb h1, ?_, hf, o', setBlock_same (lt_of_heap h1), hT _ d (fun _ _ hh => .inl hh) (.inr ⟨rfl, rfl⟩)⟩
  have hr : Rows8 w (ChangeMaps.setBlock w pb o') := Rows8.of_fr hf (fun k hk => h.not_row k (by simp at hk; simp [hk]))
  obtain ⟨n1, n2, n3⟩ := h.ne_nb
  obtain ⟨o2, h2, t2⟩ := h.faults
  obtain ⟨o3, h3, t3⟩ := h.asked
  exact ⟨(hf.block _ (lt_of_heap h.blk) (by simpa using n1)).trans h.blk, ⟨o', setBlock_same (lt_of_heap h1), hT (RPage _) d (fun _ _ hh => (hR _ _ hh).keep hr) (hv.keep hr)⟩,
    ⟨o2, (hf.block _ (lt_of_heap h2) (by simpa using h.d1.symm)).trans h2, t2.mono fun _ _ hh => hh.keep hr⟩, ⟨o3, (hf.block _ (lt_of_heap h3) (by simpa using h.d2.symm)).trans h3, t3⟩, h.d1, h.d2, h.d3⟩

def NetSt.page (S : NetSt) (u : ByteArray) (d : List UInt8) : NetSt := { S with pages := put S.pages u d }
def NSetPost (w : World) (nb pb fb ab : Nat) (S : NetSt) (R : Value → List UInt8 → Prop) (u : ByteArray) (d : List UInt8) (e : Ending) (w' : World) : Prop :=
  (fitsB u = false ∧ e = .returned (.int .i64 13) ∧ NetAt w' nb pb fb ab 0 S ∧ Fr [] w w') ∨
    (fitsB u = true ∧ e = .returned (.int .i64 0) ∧ NetAt w' nb pb fb ab 0 (S.page u d) ∧ Fr [pb] w w' ∧ ∃ g o', w.heap.size ≤ g ∧ Row8 w' g d ∧ w'.heap[pb]? = some o' ∧
      TMap Try.prog 9 o' StrKey (fun v' d' => R v' d' ∨ (v' = .slice (some ⟨g, 0, none⟩) d.length d.length ∧ d' = d)) (put S.pages u d))

set_option maxHeartbeats 4000000 in
set_option maxRecDepth 100000 in
theorem nset_any (w : World) (nb pb fb ab : Nat) (S : NetSt) (R : Value → List UInt8 → Prop) (u : ByteArray) (A : Option Addr) (d : List UInt8) (cap : Nat) (h : NetAt w nb pb fb ab 0 S) (hR : ∀ v d, R v d → RPage w v d)
    (o1 : Obj) (ho1 : w.heap[pb]? = some o1) (hT : TMap Try.prog 9 o1 StrKey R S.pages) (hu : u.size ≤ maxLen) (hd : Bs w A cap d) (hdl : d.length ≤ 140737488351232) :
    Calls Try.prog 21 #[.pointer (some ⟨nb, 0, none⟩), .string u, .slice A d.length cap] w (NSetPost w nb pb fb ab S R u d) := by
  have H := Lib.hid h
  have HR := Lib.hid hR
  have Ho1 := Lib.hid ho1
  have HT := Lib.hid hT
  have hnlt := h.lt nb (by simp)
  have hplt := h.lt pb (by simp)
  have hu63 : u.size ≤ 9223372036854775807 := by unfold maxLen at hu; exact hu
  have Hd := Lib.hid hd
  obtain ⟨hn1, hn2, hn3⟩ := h.ne_nb
  have Hn1 := Lib.hid hn1
  clear h hR ho1 hT hd hn1 hn2 hn3
  go_enter_defers Try.func21, Try.ntmps21
  go_wp2_with fail
  refine (lock_at _ H.out).mono ?_
  rintro e w1 ⟨rfl, h1, F1⟩
  have c1 := blk_cells h1.blk
  have H1 := Lib.hid h1
  have HF1 := Lib.hid F1
  have hd1 := Hd.out.net H.out F1
  have Hd1 := Lib.hid hd1
  clear h1 F1 hd1
  cases hfit : fitsB u with
  | false =>
    go_wp2_with (first | (go_at_call 30; refine (fits_any _ _ hu63).mono ?_; rintro e w' ⟨rfl, rfl⟩; rw [hfit]))
    refine leaves_cons (f := 33) (args := #[.pointer (some ⟨nb, 0, none⟩)]) (by simp) (by simp [go_sem]) ?_
    refine (unlock_at .returning _ H1.out).mono ?_
    rintro e u' w6 ⟨rfl, rfl, h6, F6⟩
    exact ⟨_, results_tmp rfl _ _ _, .inl ⟨hfit, rfl, h6, Fr.drop1 (n := nb) (HF1.out.trans F6) (h6.blk.trans H.out.blk.symm)⟩⟩
  | true =>
    go_wp2_with (first | (go_at_call 30; refine (fits_any _ _ hu63).mono ?_; rintro e w' ⟨rfl, rfl⟩; rw [hfit]))
    go_region_held3 (fun w' => w'.cell? ⟨nb, 2, none⟩ = some (.map (some pb)))
      (first | exact c1.1 2 | exact c3.1 2 | exact c4.1 2)
      (first
        | (go_at_call 31; refine (fresh_at d _ _ _ _ rfl hdl (Hd1.out.keep (Cells.drewN w1 1))).mono ?_; rintro e w3 ⟨g3, rfl, hh, hge, hb⟩; have hb3 : Below w1.heap.size w1 w3 := ⟨hb.os, hb.tape, hb.output, hb.size, hb.block⟩; have h3 := H1.out.below hb3; have ho3 := (hb3.block pb (H1.out.lt pb (by simp))).trans ((HF1.out.block pb hplt (by simp; exact fun e => Hn1.out e.symm)).trans Ho1.out); have hr1 : Rows8 w w1 := Rows8.of_fr HF1.out (fun k hk => H.out.not_row k (by simp at hk; simp [hk])); have hr3 := hr1.trans (Rows8.of_fr (Fr.of_below hb3 []) (by simp)); obtain ⟨w4, hr4, h4, F4, hT4⟩ := h3.page_putR (fun v d hv => (HR.out v d hv).keep hr3) ho3 HT.out u d hu (.slice (some ⟨g3, 0, none⟩) d.length d.length) ⟨hdl, g3, rfl, hh⟩; have c3 := blk_cells h3.blk; have c4 := blk_cells h4.blk; have hge1 : w1.heap.size ≤ g3 := hge; have hh4 := (F4.block g3 (lt_of_heap hh) (by have := H1.out.lt pb (by simp); simp; omega)).trans hh; have Hb3 := Lib.hid hb3; have H4 := Lib.hid h4; have HF4 := Lib.hid F4; have HT4 := Lib.hid hT4; have Hh4 := Lib.hid hh4; clear h3 hh hge hb hb3 h4 F4 hT4 ho3 hr1 hr3 hh4))
    clear c3 c4 hr4
    go_wp2_with fail
    refine leaves_cons (f := 33) (args := #[.pointer (some ⟨nb, 0, none⟩)]) (by simp) (by simp [go_sem]) ?_
    refine (unlock_at .returning _ H4.out).mono ?_
    rintro e u' w6 ⟨rfl, rfl, h6, F6⟩
    obtain ⟨o', ho', hT'⟩ := HT4.out
    have hlt4 := H4.out.lt
    have hne : pb ≠ nb := fun e => Hn1.out e.symm
    refine ⟨_, results_tmp rfl _ _ _, .inr ⟨hfit, rfl, h6, ?_, g3, o', by have := HF1.out.size; omega, ?_, (F6.block pb (hlt4 pb (by simp)) (by simpa using hne)).trans ho', hT'⟩⟩
    · exact Fr.drop1 (n := nb) ((((HF1.out.more (by simp)).trans (Fr.of_below Hb3.out _)).trans (HF4.out.more (by simp))).trans (F6.more (by simp))) (h6.blk.trans H.out.blk.symm)
    · exact (F6.block g3 (lt_of_heap Hh4.out) (by have := HF1.out.size; simp; omega)).trans Hh4.out
end Go.Proofs.Ytpblaclhfcomeaa
