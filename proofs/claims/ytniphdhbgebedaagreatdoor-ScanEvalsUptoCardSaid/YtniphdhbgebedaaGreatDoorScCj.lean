/-
  The package's CheckImport.
-/
import Derived.Test.YtniphdhbgebedaaGreatDoorScCi
namespace Go.Proofs.YtniphdhbgebedaaGreatDoor
open Go.RowKit

set_option linter.unusedSimpArgs false

set_option linter.unusedSimpArgs false

attribute [local go_sem] lt1 lt2 lt3 lt4 lt5 lt6

def elB (x : List UInt8) : Bool := (x != [] && x.all impB) && !(x.getD 0 0 == 46) && !(x.getD (x.length - 1) 0 == 46)
def importOk (s : List UInt8) : Bool := decide (s.length ≤ 100) && (pieces 47 s).all elB
def ElRel (D : List ByteArray) (iv : Value) : Prop := ∃ k, k ≤ D.length ∧ iv = .int .i64 (k : Nat) ∧ ∀ j, j < k → elB (toL (D.getD j ⟨#[]⟩)) = true
theorem els_no {s : ByteArray} {D : List ByteArray} (hD : D.map toL = pieces 47 (toL s)) {k : Nat} (hk : k < D.length) (h : elB (toL (D.getD k ⟨#[]⟩)) = false) : (pieces 47 (toL s)).all elB = false := by
  rw [← hD, List.all_eq_false]
  refine ⟨toL (D.getD k ⟨#[]⟩), ?_, by rw [h]; simp⟩
  refine List.mem_map_of_mem ?_
  rw [List.getD_eq_getElem?_getD, List.getElem?_eq_getElem hk]
  exact List.getElem_mem _
theorem els_yes {s : ByteArray} {D : List ByteArray} (hD : D.map toL = pieces 47 (toL s)) (h : ∀ j, j < D.length → elB (toL (D.getD j ⟨#[]⟩)) = true) : (pieces 47 (toL s)).all elB = true := by
  rw [← hD, List.all_map, List.all_eq_true]
  intro x hx
  obtain ⟨j, hj, rfl⟩ := List.getElem_of_mem hx
  have := h j hj
  rwa [List.getD_eq_getElem?_getD, List.getElem?_eq_getElem hj] at this
def ElPost (s : ByteArray) (w : World) (e : Ending) (w' : World) : Prop := e = .returned (.bool ((pieces 47 (toL s)).all elB)) ∧ Below w.heap.size w w'
set_option maxHeartbeats 4000000 in
set_option maxRecDepth 100000 in
theorem elements_any (s : ByteArray) (p : Nat) (w : World) (hp : w.cell? ⟨p, 0, none⟩ = some (.string (mkS othB))) (hl : s.size ≤ 1048576) (hm : Glob w) : Calls Tryz.prog 176 #[.string s, wdV p] w (ElPost s w) := by
  obtain ⟨D, hD, hcut⟩ := split_call s w hl hm
  have hDl : D.length = (pieces 47 (toL s)).length := by rw [← hD, List.length_map]
  have hcells : Hid (∀ k, k < D.length → (w.alloc (.cells (txs D).toArray 9)).cell? ⟨w.heap.size, k, none⟩ = some (.string (D.getD k ⟨#[]⟩))) := Lib.hid fun k hk => ((blk_cells (heap_alloc_new w _)).1 k).trans (by
    unfold txs
    rw [List.getElem?_toArray, List.getElem?_map, List.getD_eq_getElem?_getD, List.getElem?_eq_getElem hk]
    rfl)
  have hpl : Hid (∀ k, k < D.length → (D.getD k ⟨#[]⟩).size ≤ s.size) := Lib.hid fun k hk => by
    have := pieces_le 47 (toL s) (toL (D.getD k ⟨#[]⟩)) (by
      rw [← hD]
      refine List.mem_map_of_mem ?_
      rw [List.getD_eq_getElem?_getD, List.getElem?_eq_getElem hk]
      exact List.getElem_mem _)
    rw [toL_len, toL_len] at this
    exact this
  have hDs : D.length ≤ 1048577 := by rw [hDl]; have := pieces_length 47 (toL s); rw [toL_len] at this; omega
  have HD := Lib.hid hD
  have hB : Below w.heap.size w (w.alloc (.cells (txs D).toArray 9)) := (Below.refl _ _).alloc (Nat.le_refl _) _
  have hp1 : (w.alloc (.cells (txs D).toArray 9)).cell? ⟨p, 0, none⟩ = some (.string (mkS othB)) := below_cell hB (World.block_lt_of_cell? w _ hp) hp
  have HB := Lib.hid hB
  have HP1 := Lib.hid hp1
  clear hD hDl hB hp1
  unfold wdV
  go_enter Tryz.func176, Tryz.ntmps176
  go_wp2_with fail
  refine hcut.mono ?_
  rintro e w1 ⟨rfl, hw1⟩
  rw [← hw1] at hcells HB HP1
  have HP : Hid (∀ b, (pieces 47 (toL s)).all elB = b → ElPost s w (.returned (.bool b)) w1) := Lib.hid fun b hb => ⟨ret_bool (by rw [hb]), HB.out⟩
  have Hall : Hid (∀ x : ByteArray, x.size ≤ 1048576 → Calls Tryz.prog 178 #[.string x, .func (.func 179) #[] #[.pointer (some ⟨p, 0, none⟩)]] w1 fun e w' => e = .returned (.bool (toL x != [] && (toL x).all impB)) ∧ w' = w1) := Lib.hid fun x hx => all_any x p w1 HP1.out hx
  clear HB HP1 hp
  clear hw1 hcut hm
  generalize w.heap.size = g at *
  go_wp2_with fail
  go_loop [10] (fun iv => ElRel D iv) (fun iv => D.length - (intOf iv).toNat)
  case atStart => exact ⟨0, by omega, rfl, fun j hj => by omega⟩
  case round =>
    obtain ⟨k, hk, rfl, hok⟩ := hrel
    have Hok := Lib.hid hok
    clear hok
    have hkr : (0 : Int) ≤ k := by omega
    by_cases hlt : k < D.length
    · have hkI : (k : Int) < D.length := by omega
      have g1 := hcells.out k hlt
      have hxs := hpl.out k hlt
      have Hno := Lib.hid (els_no HD.out hlt)
      have Hstep : Hid (elB (toL (D.getD k ⟨#[]⟩)) = true → ElRel D (.int .i64 ((k : Int) + 1))) := Lib.hid fun h => ⟨k + 1, by omega, by go_num, fun j hj => by
        rcases Nat.lt_or_ge j k with h2 | h2
        · exact Hok.out j h2
        · obtain rfl : j = k := by omega
          exact h⟩
      generalize D.getD k ⟨#[]⟩ = x at *
      have hal := Hall.out x (by omega)
      obtain ⟨b, hb⟩ : ∃ b, (toL x != [] && (toL x).all impB) = b := ⟨_, rfl⟩
      rw [hb] at hal
      have Hal := Lib.hid hal
      cases b with
      | false =>
        have Hf := Lib.hid (Hno.out (by unfold elB; rw [hb]; rfl))
        clear hal hb
        go_wp2_with (go_at_call 178; refine Hal.out.mono ?_; rintro e y ⟨rfl, hy⟩; rw [hy])
        go_ret
        exact HP.out _ Hf.out
      | true =>
        have hne : toL x ≠ [] := by
          intro h
          rw [h] at hb
          simp at hb
        have hx0 : 0 < x.size := by
          rw [← toL_len]
          exact List.length_pos_iff.2 hne
        have hxI : (0 : Int) < x.size := by omega
        have hsb : x[0] = (toL x).getD 0 0 := str_byte hx0
        obtain ⟨q, hq⟩ : ∃ q, q = (toL x).getD 0 0 := ⟨_, rfl⟩
        rw [← hq] at hsb
        have hl1 : x.size - 1 < x.size := by omega
        have hsl : x[x.size - 1] = (toL x).getD (x.size - 1) 0 := str_byte hl1
        obtain ⟨q2, hq2⟩ : ∃ q, q = (toL x).getD (x.size - 1) 0 := ⟨_, rfl⟩
        rw [← hq2] at hsl
        have hxw : IntKind.i64.wrap ((x.size : Int) - 1) = (x.size : Int) - 1 := by rw [IntKind.wrap_i64]; omega
        have hxt : ((x.size : Int) - 1).toNat = x.size - 1 := by omega
        have hx1 : (0 : Int) ≤ (x.size : Int) - 1 := by omega
        have hx2 : (x.size : Int) - 1 < x.size := by omega
        have hel : elB (toL x) = (!(q == 46) && !(q2 == 46)) := by
          unfold elB
          rw [hb, ← hq, toL_len, ← hq2, Bool.true_and]
        have Hel := Lib.hid hel
        clear hal hb hel hq hq2 hne
        by_cases c1 : q.toNat = 46
        · have j1 : ((q.toNat : Int) == 46) = true := by rw [beq_iff_eq]; omega
          have Hf := Lib.hid (Hno.out (by rw [Hel.out, show q = 46 from UInt8.toNat_inj.1 c1]; rfl))
          clear c1
          go_wp2_with (go_at_call 178; refine Hal.out.mono ?_; rintro e y ⟨rfl, hy⟩; rw [hy])
          go_ret
          exact HP.out _ Hf.out
        · have j1 : ((q.toNat : Int) == 46) = false := by rw [beq_eq_false_iff_ne]; omega
          have n1 : (q == 46) = false := beq_eq_false_iff_ne.2 fun h => c1 (by rw [h]; rfl)
          by_cases c2 : q2.toNat = 46
          · have j2 : ((q2.toNat : Int) == 46) = true := by rw [beq_iff_eq]; omega
            have Hf := Lib.hid (Hno.out (by rw [Hel.out, show q2 = 46 from UInt8.toNat_inj.1 c2]; simp))
            clear c1 c2 n1
            go_wp2_with (go_at_call 178; refine Hal.out.mono ?_; rintro e y ⟨rfl, hy⟩; rw [hy])
            go_ret
            exact HP.out _ Hf.out
          · have j2 : ((q2.toNat : Int) == 46) = false := by rw [beq_eq_false_iff_ne]; omega
            have n2 : (q2 == 46) = false := beq_eq_false_iff_ne.2 fun h => c2 (by rw [h]; rfl)
            have Hs := Lib.hid (Hstep.out (by rw [Hel.out, n1, n2]; rfl))
            clear c1 c2 n1 n2
            go_wp2_with (go_at_call 178; refine Hal.out.mono ?_; rintro e y ⟨rfl, hy⟩; rw [hy])
            exact ⟨Hs.out, by simp [intOf]; omega⟩
    · have hkI : ¬ (k : Int) < D.length := by omega
      have Hy := Lib.hid (els_yes HD.out fun j hj => Hok.out j (by omega))
      go_wp2_with fail
      go_ret
      exact HP.out _ Hy.out
theorem word_any (w : World) : Calls Tryz.prog 177 #[.string ⟨#[45, 46, 95, 126, 43]⟩] w fun e w' => e = .returned (wdV w.heap.size) ∧ w.alloc (.cells #[.string (mkS othB)] 9) = w' := by
  unfold wdV
  go_enter Tryz.func177, Tryz.ntmps177
  go_wp2_with fail
  go_ret
  exact ⟨rfl, rfl⟩
def ciE (s : List UInt8) : Int := if 100 < s.length then 13 else if (pieces 47 s).all elB = true then 0 else 9
theorem ciE_ok (s : List UInt8) : ciE s = 0 ↔ importOk s = true := by
  unfold ciE importOk
  rw [Bool.and_eq_true, decide_eq_true_eq]
  by_cases h : 100 < s.length
  · rw [if_pos h]
    exact ⟨fun e => absurd e (by decide), fun h' => absurd h'.1 (by omega)⟩
  · rw [if_neg h]
    by_cases h2 : (pieces 47 s).all elB = true
    · rw [if_pos h2]
      exact ⟨fun _ => ⟨Nat.le_of_not_lt h, h2⟩, fun _ => rfl⟩
    · rw [if_neg h2]
      exact ⟨fun e => absurd e (by decide), fun h' => absurd h'.2 h2⟩
def CiPost (s : ByteArray) (w : World) (e : Ending) (w' : World) : Prop := e = .returned (.int .i64 (ciE (toL s))) ∧ Below w.heap.size w w'
set_option maxHeartbeats 4000000 in
theorem checkImport_any (s : ByteArray) (w : World) (hm : Glob w) : Calls Tryz.prog 170 #[.string s] w (CiPost s w) := by
  by_cases h1 : 100 < s.size
  · have hI : (100 : Int) < s.size := by omega
    go_enter Tryz.func170, Tryz.ntmps170
    go_wp2_with fail
    go_ret
    exact ⟨by unfold ciE; rw [toL_len, if_pos h1]; rfl, Below.refl _ _⟩
  · have hI : ¬ (100 : Int) < s.size := by omega
    have hB := (Below.refl _ w).alloc (Nat.le_refl _) (.cells #[.string (mkS othB)] 9)
    have hel := elements_any s w.heap.size (w.alloc (.cells #[.string (mkS othB)] 9)) (by simp) (by omega) (hm.below hB hm.pos)
    have HB := Lib.hid hB
    have HE := Lib.hid hel
    have hc : ciE (toL s) = if (pieces 47 (toL s)).all elB = true then 0 else 9 := by unfold ciE; rw [toL_len, if_neg h1]
    have HC := Lib.hid hc
    clear hB hel hc
    unfold ElPost wdV at HE
    have hw := word_any w
    unfold wdV at hw
    cases hb : (pieces 47 (toL s)).all elB with
    | true =>
      rw [hb] at HE
      have Hb := Lib.hid hb
      clear hb
      go_enter Tryz.func170, Tryz.ntmps170
      go_wp2_with (first
        | (go_at_call 177; refine hw.mono ?_; rintro e y ⟨rfl, hy⟩; rw [hy] at HE HB)
        | (go_at_call 176; refine HE.out.mono ?_; rintro e z ⟨rfl, hz⟩))
      go_ret
      exact ⟨by rw [HC.out, Hb.out]; rfl, HB.out.trans (hz.mono HB.out.size)⟩
    | false =>
      rw [hb] at HE
      have Hb := Lib.hid hb
      clear hb
      go_enter Tryz.func170, Tryz.ntmps170
      go_wp2_with (first
        | (go_at_call 177; refine hw.mono ?_; rintro e y ⟨rfl, hy⟩; rw [hy] at HE HB)
        | (go_at_call 176; refine HE.out.mono ?_; rintro e z ⟨rfl, hz⟩))
      go_ret
      exact ⟨by rw [HC.out, Hb.out]; rfl, HB.out.trans (hz.mono HB.out.size)⟩
end Go.Proofs.YtniphdhbgebedaaGreatDoor