/-
  maps.DeleteFunc of the files that nobody uses.
-/
import Derived.Test.YtaolddgnannojaaDoorFsUsed
import Derived.Lib.SlMapFilter
import Derived.Deep.LoopGhost
import Derived.Sort.MapsRangeIn
namespace Go.Proofs.YtaolddgnannojaaDoor
open Go.RowKit Go.Maps

attribute [local go_sem] lt1 lt2 lt3 lt4 lt5 lt6

def litNat : Lit → Nat
  | .int _ a => a.toNat
  | _ => 0
def unusedB (f : Nat → Nat) (kl : Lit) (_ : Dm) : Bool := decide (f (litNat kl) = 0)
theorem settle1_any (w : World) (bu um t : Nat) (f : Nat → Nat) (hu : UsedAt w um t f) (hbu : w.heap[bu]? = some (.cells #[.map (some um)] 91 (0, 0))) (n : Nat) (hn : n ≤ 9223372036854775807) (v : Value) :
    Calls Tryd.prog 64 #[.int .i64 (n : Nat), v, .pointer (some ⟨bu, 0, none⟩)] w fun e w' => e = .returned (.bool (decide (f n = 0))) ∧ w' = w := by
  have hrun := hu.run n hn
  have k0 := box_cell hbu
  clear hu hbu
  go_enter Tryd.func64, Tryd.ntmps64
  go_wp2_with fail
  go_ret
  refine ⟨bool_ret ?_, rfl⟩
  rw [Bool.eq_iff_iff]
  simp
theorem enter_t1 (args : Array Value) (w : World) : (callFunc 64 args).run Tryd.prog w = .ok (.enter 64 args) w := Go.MuLone.run_callFunc_enter Tryd.func64 (by kernel_rfl) rfl args w
theorem ptrInv : ∀ (v : Value) (y : Dm × List MemPlace), RPtr v = some y → ∃ c, v = Value.pointer c := by
  intro v y h
  unfold RPtr at h
  split at h
  · exact ⟨_, rfl⟩
  · exact ⟨_, rfl⟩
  · cases h
theorem intKInv : ∀ key kl, keyOf Tryd.prog 3 key = some kl → ∃ x, key = Value.int .i64 x := fun _ _ h => by
  obtain ⟨x, rfl, _⟩ := Maps.keyOf_int_inv Tryd.underlying3 h
  exact ⟨x, rfl⟩
def DelPost (w : World) (b n : Nat) (D : Dm) (f : Nat → Nat) (e : Ending) (w' : World) : Prop := e = .returned (.tuple #[]) ∧ w'.ownsMap Tryd.prog 3 RPtr b n (Lib.deleteFuncD (unusedB f) D) ∧ w.grownBy w' (some b)
def DelRel (w : World) (b n : Nat) (es0 : List (Lit × Dm)) (f : Nat → Nat) (r : Nat) (wr : World) : Prop :=
  ∃ (left : Lit → Bool) (cnt : Nat), wr.ranges Tryd.prog 3 RPtr b r n (Fk (unusedB f) es0 left) left cnt ∧ w.grownBy wr (some b)
set_option maxHeartbeats 4000000 in
set_option maxRecDepth 100000 in
theorem del_any (w : World) (b n : Nat) (D : Dm) (bu um t : Nat) (f : Nat → Nat) (hown : w.ownsMap Tryd.prog 3 RPtr b n D) (hu : UsedAt w um t f) (hbu : w.heap[bu]? = some (.cells #[.map (some um)] 91 (0, 0)))
    (h1 : um ≠ b) (h2 : bu ≠ b) (hk : ∀ kl, has D kl = true → ∃ n : Nat, kl = ik n) :
    Calls Tryd.prog 63 #[.map (some b), .func (.func 64) #[] #[.pointer (some ⟨bu, 0, none⟩)]] w (DelPost w b n D f) := by
  obtain ⟨es0, rfl, hap, hkeys⟩ := hown.entries intK
  have hk0 : ∀ p ∈ es0, ∃ n : Nat, p.1 = ik n := fun p hp => hk p.1 (by
    rw [has_eq, List.any_eq_true]
    exact ⟨p, hp, WideAt.sameKey_self (hkeys p hp)⟩)
  have eg := enter_t1
  have Hu := Lib.hid hu
  have Hbu := Lib.hid hbu
  have Hk := Lib.hid hk0
  have hlb := hown.lt
  clear hu hbu hk hk0
  go_enter Tryd.func63, Tryd.ntmps63
  go_wp2_with (first
    | (at_range; refine wpList_range_own _ rfl _ 59 rfl 3 64 intK Tryd.underlying59 RPtr b n _ rfl hown ?_; intro w0 hrg0 hg0 hs0)
    | go_in)
  go_frame
  have Hrel0 : Hid (DelRel w b n es0 f w.heap.size w0) := Lib.hid ⟨_, _, by rw [Fk_start hkeys]; exact hrg0, hg0.but _⟩
  clear hrg0 hg0 hs0
  go_loopw [4, 5] (fun _ _ wr => DelRel w b n es0 f w.heap.size wr) (fun _ _ wr => wr.rangeLeft b w.heap.size)
  case atStart => exact Hrel0.out
  case round =>
    obtain ⟨left, cnt, hrg, hgw⟩ := hrel
    have HL := Lib.hid hrg.left_eq
    go_wp2_with (first
      | (at_next; refine wpList_next_ranges _ rfl _ rfl 3 intK RPtr (Value.int .i64) Value.pointer intKInv ptrInv b w.heap.size n _ _ _ rfl hrg ?_ ?_)
      | go_in)
    · intro _ hl0
      have Hfin : Hid (DelPost w b n (.map es0) f (.returned (.tuple #[])) wr) := Lib.hid ⟨rfl, by rw [← Fk_end hl0]; exact hrg.owns, hgw⟩
      clear hrg hgw
      go_wp2_with fail
      go_end0
      exact Hfin.out
    · intro x c kl yd yp w1 cnt1 hkey hlx hv hat hrg1 hlt hg1 hs1 hen
      have hgw1 := hgw.andThen hg1 (fun j hj => by cases hj; exact Or.inl (Nat.le_refl _))
      have hu1 := Hu.out.kept (Fr.of_grown hgw1) (by simpa using h1)
      have hbu1 := (hgw1.block _ (lt_of_heap Hbu.out) (by simpa using h2)).trans Hbu.out
      have hcome := has_true_of_atKey hat
      obtain ⟨m, hm⟩ : ∃ m : Nat, kl = ik m := by
        unfold Fk at hcome
        rw [has_eq, List.any_eq_true] at hcome
        obtain ⟨p, hp, hs⟩ := hcome
        rw [← WideAt.sameKey_eq hs]
        exact Hk.out p (List.mem_filter.1 hp).1
      obtain ⟨x', ex, ek, hwf⟩ := Maps.keyOf_int_inv Tryd.underlying3 hkey
      cases ex
      have hxm : x = (m : Int) := by
        rw [hm] at ek
        unfold ik at ek
        simpa using ek.symm
      subst hxm
      have hm9 : m ≤ 9223372036854775807 := wf_le hwf
      have hc := settle1_any w1 bu um t f hu1 hbu1 m hm9 (.pointer c)
      have hbl := hrg1.owns.lt
      have hrl := hrg1.lt
      have Hc := Lib.hid hc
      have Hgw1 := Lib.hid hgw1
      clear hc hu1 hbu1 hgw hgw1 hg1 hs1 hcome hwf ek
      have hpd : unusedB f kl yd = decide (f m = 0) := by rw [hm]; rfl
      have Hpd := Lib.hid hpd
      clear hpd
      by_cases hp : f m = 0
      · have hpt : unusedB f kl yd = true := by rw [Hpd.out]; simpa using hp
        have Hfk := Lib.hid (Fk_struck hap (intK.key hkey) hlx hpt hat)
        have hd : decide (f m = 0) = true := by simpa using hp
        rw [hd] at Hc
        clear hd hpt hat hlx hrg
        have Hrg1 := Lib.hid hrg1
        clear hrg1
        go_wp2_with (first
          | (go_at_fn 64; refine Hc.out.mono ?_; rintro e w2 ⟨rfl, rfl⟩)
          | (at_delete; refine wpList_delete_ranges _ rfl _ _ 59 3 rfl 64 intK Tryd.underlying59 RPtr b w.heap.size n _ _ _ rfl Hrg1.out _ _ rfl hkey ?_; intro w3 cnt3 hrg3 hle hturn; go_frame)
          | go_in)
        rw [strike_twice] at hrg3
        go_roundw
        case rel => exact ⟨_, cnt3, by rw [← Hfk.out]; exact hrg3, Hgw1.out.andThen hturn.grown (fun j hj => by cases hj; exact Or.inr rfl)⟩
        case measure => rw [hrg3.left_eq, HL.out]; omega
      · have hpt : unusedB f kl yd = false := by rw [Hpd.out]; simpa using hp
        have Hfk := Lib.hid (Fk_stays hap (intK.key hkey) hlx hpt hat)
        have hd : decide (f m = 0) = false := by simpa using hp
        rw [hd] at Hc
        have Hfin : Hid (DelRel w b n es0 f w.heap.size w1) := Lib.hid ⟨_, cnt1, by rw [← Hfk.out]; exact hrg1, Hgw1.out⟩
        have Hms : Hid (w1.rangeLeft b w.heap.size < wr.rangeLeft b w.heap.size) := Lib.hid (by rw [hrg1.left_eq, HL.out]; exact hlt)
        clear hd hpt hat hlx hrg1 hrg
        go_wp2_with (first
          | (go_at_fn 64; refine Hc.out.mono ?_; rintro e w2 ⟨rfl, rfl⟩)
          | go_in)
        go_roundw
        case rel => exact Hfin.out
        case measure => exact Hms.out
end Go.Proofs.YtaolddgnannojaaDoor
