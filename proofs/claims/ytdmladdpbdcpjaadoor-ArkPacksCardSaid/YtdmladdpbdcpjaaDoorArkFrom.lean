/-
  Base64 read: the package's.
-/
import Derived.Test.YtdmladdpbdcpjaaDoorArkB64
import Derived.Test.YtdmladdpbdcpjaaDoorDecode
import Derived.Test.YtdmladdpbdcpjaaDoorShelf
namespace Go.Proofs.YtdmladdpbdcpjaaDoor
open Go.RowKit

attribute [local go_sem] lt1 lt2 lt3 lt4 lt5 lt6

/-- what FromBase64 hands back -/
def FromPost (s : List UInt8) (w : World) (e : Ending) (w' : World) : Prop :=
  Below w.heap.size w w' ∧ ((∃ b v, b64 b = s ∧ e = .returned (.tuple #[v, .int .i64 0]) ∧ w'.ownsRow w.heap.size 5 1 v b.length (u8s b)) ∨ ((∀ b, b64 b ≠ s) ∧ e = .returned (.tuple #[.slice none 0 0, .int .i64 15])))
def lettersB : ByteArray := ⟨#[65, 66, 67, 68, 69, 70, 71, 72, 73, 74, 75, 76, 77, 78, 79, 80, 81, 82, 83, 84, 85, 86, 87, 88, 89, 90, 97, 98, 99, 100, 101, 102, 103, 104, 105, 106, 107, 108, 109, 110, 111, 112, 113, 114, 115, 116, 117, 118, 119, 120, 121, 122, 48, 49, 50, 51, 52, 53, 54, 55, 56, 57, 43, 47]⟩
/-- the place of a letter as the walk has it -/
def placeI (c : UInt8) : Int := match place64 c with
  | some v => v
  | none => -1
theorem index_letters0 : ∀ n, n < 256 → Lib.indexByte lettersB.data.toList (UInt8.ofNat n) = placeI (UInt8.ofNat n) := by decide +kernel
theorem index_letters (c : UInt8) : Lib.indexByte lettersB.data.toList c = placeI c := by
  have := index_letters0 c.toNat c.toNat_lt
  rwa [UInt8.ofNat_toNat] at this
theorem index_call (c : UInt8) (w : World) : Calls Tryd.prog 56 #[.string lettersB, .int .u8 (c.toNat : Nat)] w fun e w' => e = .returned (.int .i64 (placeI c)) ∧ w' = w := by
  refine (Tryd.strings_IndexByte lettersB (c.toNat : Nat) w).mono fun e w' ⟨he, hw⟩ => ⟨?_, hw⟩
  rw [he, Int.toNat_natCast, show c.toNat.toUInt8 = c from UInt8.ofNat_toNat, index_letters]
theorem step_int (x v : Nat) (hx : x < 65536) (hv : v < 64) : bits .or .i64 (bits .and .i64 ((x : Int) * 64) 65535) (v : Int) = ((x * 64 % 65536 + v : Nat) : Int) := by
  have h1 := i64_and_nat (x * 64) 65535 (by omega) (by omega)
  rw [Nat.and_two_pow_sub_one_eq_mod (x * 64) 16] at h1
  have e : bits .and .i64 ((x : Int) * 64) 65535 = ((x * 64 % 2 ^ 16 : Nat) : Int) := by rw [← h1]; simp
  rw [e, i64_or_nat _ _ (by omega) (by omega), nat_join 6 _ _ (by omega) (by omega)]
theorem drop_cons {T : List UInt8} {i : Nat} (h : i < T.length) : T.drop i = T.getD i 0 :: T.drop (i + 1) := by
  rw [List.drop_eq_getElem_cons h]
  simp [List.getD_eq_getElem?_getD, h]
theorem str_at {T : ByteArray} {i : Nat} (h : i < T.data.toList.length) (hb : i < T.size) : T[i]'hb = T.data.toList.getD i 0 := by
  rw [List.getD_eq_getElem?_getD, List.getElem?_eq_getElem h]
  rfl
theorem trim_le (l : List UInt8) (c : UInt8) : (Lib.trimRightB l c).length ≤ l.length := by
  unfold Lib.trimRightB
  rw [List.length_reverse]
  exact Nat.le_trans (List.dropWhile_sublist _).length_le (by simp)
theorem push_own {w : World} {base : Nat} {v : Value} {O : List UInt8} {x : UInt8} (h : w.ownsRow base 5 1 v (O.length + 1) (u8s O ++ [.int .u8 (x.toNat : Nat)])) : w.ownsRow base 5 1 v (O ++ [x]).length (u8s (O ++ [x])) := by
  rw [show (O ++ [x]).length = O.length + 1 by simp, show u8s (O ++ [x]) = u8s O ++ [.int .u8 (x.toNat : Nat)] by simp [u8s]]
  exact h
theorem str_eq (a b : ByteArray) : (a.toList == b.toList) = decide (a = b) := by
  by_cases h : a = b
  · subst h; simp
  · have h2 : a.toList ≠ b.toList := fun e => h (by rw [Lib.toList_data, Lib.toList_data] at e; cases a; cases b; simpa using e)
    simp [h, h2]
theorem size_list (T : ByteArray) : T.data.toList.length = T.size := by rw [Array.length_toList]; rfl
theorem place_lt (c : UInt8) (v : Nat) (h : place64 c = some v) : v < 64 := by
  unfold place64 at h
  rw [List.findIdx?_eq_some_iff_getElem] at h
  exact h.1
def FromRel (w : World) (T : List UInt8) (ov xv kv iv : Value) (wr : World) : Prop :=
  ∃ i x k O, i ≤ T.length ∧ iv = .int .i64 (i : Nat) ∧ xv = .int .i64 (x : Nat) ∧ x < 65536 ∧ kv = .int .i64 (k : Nat) ∧ k < 8 ∧ O.length ≤ i ∧ decGo T 0 0 [] = decGo (T.drop i) x k O ∧ wr.ownsRow w.heap.size 5 1 ov O.length (u8s O) ∧ Below w.heap.size w wr

set_option maxHeartbeats 4000000 in
set_option maxRecDepth 100000 in
theorem from_any (w : World) (s : ByteArray) (hl : s.size ≤ 1048576) :
    Calls Tryd.prog 43 #[.string s] w (FromPost s.data.toList w) := by
  obtain ⟨i0, hi0, hz0, hz1, hz2⟩ := info_parts infoU8
  go_enter Tryd.func43, Tryd.ntmps43
  go_wp2_with fail
  refine (Tryd.strings_TrimRight_one s 61 (by decide) w (by omega)).mono ?_
  rintro e w' ⟨rfl, hw⟩
  obtain rfl := hw.symm
  obtain ⟨T, hT⟩ : ∃ T : ByteArray, T = ⟨(Lib.trimRightB s.data.toList 61).toArray⟩ := ⟨_, rfl⟩
  rw [← hT]
  have hTd : T.data.toList = Lib.trimRightB s.data.toList 61 := by rw [hT]
  have hTs : T.size ≤ 1048576 := by
    rw [← size_list, hTd]
    have := trim_le s.data.toList 61
    rw [size_list] at this
    omega
  have HT := Lib.hid hTd
  have Hs := Lib.hid (size_list T)
  clear hT hTd
  go_wp2_with fail
  go_loopw [5, 6, 7, 8] (fun ov xv kv iv wr => FromRel w T.data.toList ov xv kv iv wr) (fun _ _ _ iv _ => T.size - (intOf iv).toNat)
  case atStart => exact ⟨0, 0, 0, [], by omega, rfl, rfl, by omega, rfl, by omega, by simp, rfl, World.ownsRow_nil _ _ _ _, Below.refl _ _⟩
  case round =>
    obtain ⟨i, x, k, O, hi, rfl, rfl, hx, rfl, hk, hO, hdec, hown, hB⟩ := hrel
    rw [Hs.out] at hi
    obtain ⟨Av, cv, rfl, _, _, _, _⟩ := own_form hown
    have Hown := Lib.hid hown
    have HB := Lib.hid hB
    have hwr := hB.size
    have Hdec := Lib.hid hdec
    clear hown hB hdec
    by_cases hlt : i < T.size
    · have hlt' : i < T.data.toList.length := by rw [Hs.out]; exact hlt
      have hdr := drop_cons hlt'
      have hat := fun hb => str_at hlt' hb
      obtain ⟨c, hc⟩ : ∃ c, c = T.data.toList.getD i 0 := ⟨_, rfl⟩
      rw [← hc] at hdr
      simp only [← hc] at hat
      have Hdr := Lib.hid hdr
      have hi1 : (0 : Int) ≤ i := by omega
      have hi2 : (i : Int) < T.size := by omega
      clear hdr hc
      cases hp : place64 c with
      | none =>
        have hpi : placeI c = -1 := by unfold placeI; rw [hp]
        have Hp := Lib.hid hp
        clear hp
        go_wp2_with fail
        refine (index_call c _).mono ?_
        rintro e w' ⟨rfl, hw⟩
        obtain rfl := hw.symm
        rw [hpi]
        clear hpi
        go_wp2_with fail
        go_ret2
        refine ⟨HB.out, .inr ⟨fun b hb => ?_, rfl⟩⟩
        have h1 := dec_b64 b
        rw [hb, ← HT.out, Hdec.out, Hdr.out, decGo_bad Hp.out] at h1
        simp at h1
      | some v =>
        have hpi : placeI c = v := by unfold placeI; rw [hp]
        have hv := place_lt c v hp
        have hst := step_int x v hx hv
        have Hp := Lib.hid hp
        clear hp
        go_wp2_with fail
        refine (index_call c _).mono ?_
        rintro e w' ⟨rfl, hw⟩
        obtain rfl := hw.symm
        rw [hpi]
        clear hpi
        obtain ⟨X, hX⟩ : ∃ X, X = x * 64 % 65536 + v := ⟨_, rfl⟩
        rw [← hX] at hst
        have hXl : X < 65536 := by omega
        have HX := Lib.hid hX
        clear hX
        have Hrest : Hid (decGo T.data.toList 0 0 [] = if 8 ≤ k + 6 then decGo (T.data.toList.drop (i + 1)) X (k + 6 - 8) (O ++ [UInt8.ofNat (X / 2 ^ (k + 6 - 8))]) else decGo (T.data.toList.drop (i + 1)) X (k + 6) O) := Lib.hid (by rw [Hdec.out, Hdr.out, decGo_one Hp.out, HX.out])
        clear Hp HX
        by_cases hk8 : 8 ≤ k + 6
        · rw [if_pos hk8, show k + 6 - 8 = k - 2 by omega] at Hrest
          go_wp2_with (first | (at_builtin; refine wpList_append_own _ rfl _ _ 28 rfl w.heap.size 5 i0 (.int .u8 0) 1 1 Tryd.underlying28 hi0 hz0 hz1 hz2 rfl (by omega) (.slice Av O.length cv) O.length (u8s O) rfl (Hown.out.alloc _) ⟨wr.heap.size, 0, none⟩ 1 1 [.int .u8 ((X : Int) / 2 ^ (k - 2) % 256)] rfl rfl (cell_one_new _ _ _) (one_cell _) (by unfold maxLen; omega) (by omega) (by simp; omega) ?_))
          intro v1 wp hown1 hgrow1 _
          have hB1 := (HB.out.alloc hwr _).grown hgrow1 (by simp; omega) (fun k' hk' => (own_blk Hown.out k' hk').1)
          have hb : (X : Int) / 2 ^ (k - 2) % 256 = (((UInt8.ofNat (X / 2 ^ (k - 2))).toNat : Nat) : Int) := by
            rw [UInt8.toNat_ofNat', Int.natCast_emod, Int.natCast_ediv, Int.natCast_pow]
            rfl
          rw [hb] at hown1
          have hown2 := push_own hown1
          obtain ⟨Av1, cv1, rfl, _, _, _, _⟩ := own_form hown1
          have Hfin : Hid (FromRel w T.data.toList (.slice Av1 (O.length + 1) cv1) (.int .i64 (X : Nat)) (.int .i64 ((k : Int) + 6 - 8)) (.int .i64 ((i : Int) + 1)) wp) := Lib.hid ⟨i + 1, X, k - 2, _, by omega, rfl, rfl, by omega, by congr 1; omega, by omega, by simp; omega, Hrest.out, hown2, hB1⟩
          clear hown1 hgrow1 hB1 hown2 hb
          go_wp2_with fail
          exact ⟨Hfin.out, by simp [intOf]; omega⟩
        · rw [if_neg hk8] at Hrest
          have Hfin : Hid (FromRel w T.data.toList (.slice Av O.length cv) (.int .i64 (X : Nat)) (.int .i64 ((k : Int) + 6)) (.int .i64 ((i : Int) + 1)) wr) := Lib.hid ⟨i + 1, X, k + 6, O, by omega, rfl, rfl, by omega, rfl, by omega, by omega, Hrest.out, Hown.out, HB.out⟩
          go_wp2_with fail
          exact ⟨Hfin.out, by simp [intOf]; omega⟩
    · have hbs := row_sl' Hown.out
      have Hres : Hid (decGo T.data.toList 0 0 [] = some O) := Lib.hid (by rw [Hdec.out, List.drop_eq_nil_of_le (by rw [Hs.out]; omega), decGo])
      have Hend : Hid (∀ b, b64 b = s.data.toList → b = O) := Lib.hid (by
        intro b hb
        have h1 := dec_b64 b
        rw [hb, ← HT.out, Hres.out] at h1
        exact (Option.some.inj h1).symm)
      go_wp2_with fail
      refine (base64_any wr O Av _ hbs (by omega)).mono ?_
      rintro e w1 ⟨rfl, hB1⟩
      have HB1 : Hid (Below w.heap.size w w1) := Lib.hid (HB.out.trans (hB1.mono hwr))
      have Hown1 : Hid (w1.ownsRow w.heap.size 5 1 (.slice Av O.length cv) O.length (u8s O)) := Lib.hid (own_keep Hown.out fun g cs hg => (hB1.block g (lt_of_heap hg)).trans hg)
      clear hB1 hbs
      obtain ⟨S, hS⟩ : ∃ S : ByteArray, S = ⟨(b64 O).toArray⟩ := ⟨_, rfl⟩
      rw [← hS]
      have HS := Lib.hid hS
      clear hS
      by_cases he : S = s
      · have hq : (S.toList == s.toList) = true := by rw [he]; exact BEq.rfl
        have He := Lib.hid he
        clear he
        go_wp2_with fail
        go_ret2
        refine ⟨HB1.out, .inl ⟨O, _, ?_, rfl, Hown1.out⟩⟩
        rw [← He.out, HS.out]
      · have hq : (S.toList == s.toList) = false := by rw [str_eq]; simp [he]
        have He := Lib.hid he
        clear he
        go_wp2_with fail
        go_ret2
        refine ⟨HB1.out, .inr ⟨fun b hb => He.out ?_, rfl⟩⟩
        rw [HS.out, ← Hend.out b hb, hb]
end Go.Proofs.YtdmladdpbdcpjaaDoor
