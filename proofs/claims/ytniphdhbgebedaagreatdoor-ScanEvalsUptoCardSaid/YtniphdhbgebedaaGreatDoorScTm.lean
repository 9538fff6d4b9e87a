/-
  strings.TrimLeft and strings.Trim by a set of two or three ASCII bytes.
-/
import Derived.Test.YtniphdhbgebedaaGreatDoorScTr
import Derived.Test.YtniphdhbgebedaaGreatDoorScRow
namespace Go.Proofs.YtniphdhbgebedaaGreatDoor
open Go.RowKit Go.Maps

set_option linter.unusedSimpArgs false

attribute [local go_sem] lt1 lt2 lt3 lt4 lt5 lt6

set_option maxRecDepth 100000 in
theorem zeroSet : ∀ w, (zeroValue 133).run Tryz.prog w = .ok (.agg (Array.replicate 256 (.bool false))) w := fun w => by kernel_rfl
theorem sizeSet : (Tryz.prog.info? 133).map (·.size) = some 256 := by kernel_rfl
def inC (C : ByteArray) (x : UInt8) : Bool := (toL C).contains x
theorem set_at (w : World) (b : Nat) (cs : List UInt8) (h : w.heap[b]? = some (.cells (Lib.setCells cs) 133 (0, 0))) : SetAt w b (fun x => cs.contains x) :=
  ⟨lt_of_heap h, fun x => ((blk_cells h).1 _).trans (Lib.setCells_at cs x)⟩
set_option maxRecDepth 100000 in
set_option maxHeartbeats 8000000 in
theorem trimLeft_set (w : World) (s : ByteArray) (hs : s.size ≤ 1048576) (C : ByteArray) (hC : 2 ≤ C.size) (hC3 : C.size ≤ 3) (hasc : ∀ (j : Nat) b, C.data.toList[j]? = some b → b.toNat < 128) :
    Calls Tryz.prog 159 #[.string s, .string C] w fun e w' => e = .returned (.string (mkS ((toL s).dropWhile (inC C)))) ∧ Below w.heap.size w w' := by
  by_cases h0 : toL s = []
  · have hb : (s.toList == []) = true := by rw [show s.toList = toL s from Lib.toList_data s, h0]; rfl
    have H0 := Lib.hid h0
    clear h0
    go_enter Tryz.func159, Tryz.ntmps159
    go_wp2_with fail
    go_ret
    refine ⟨congrArg (fun z => Ending.returned (.string z)) ?_, Below.refl _ _⟩
    apply toL_inj
    rw [toL_mkS, H0.out]
    rfl
  · have hb : (s.toList == []) = false := beq_eq_false_iff_ne.2 (by rw [show s.toList = toL s from Lib.toList_data s]; exact h0)
    have hbC : (C.toList == []) = false := beq_eq_false_iff_ne.2 (by
      rw [show C.toList = toL C from Lib.toList_data C]
      intro h
      have := congrArg List.length h
      rw [toL_len, List.length_nil] at this
      omega)
    have hC1 : ((C.size : Int) == 1) = false := by rw [beq_eq_false_iff_ne]; omega
    have hmk := Tryz.strings_makeASCIISet zeroSet C w (by omega) hasc
    have Hmk := Lib.hid hmk
    clear h0 hmk
    go_enter Tryz.func159, Tryz.ntmps159
    go_wp2_with fail
    refine Hmk.out.mono ?_
    rintro e x1 ⟨rfl, rfl⟩
    clear Hmk
    have h256 : (Lib.setCells C.data.toList).size = 256 := Lib.setCells_size _
    have hsz : (Tryz.prog.info? 133).map (·.size) = some (Lib.setCells C.data.toList).size := by rw [h256]; exact sizeSet
    have hz : (Array.replicate 256 (Value.bool false)).size = (Lib.setCells C.data.toList).size := by rw [h256]; simp
    have hone := Lib.setCells_one C.data.toList
    obtain ⟨VS, hVS⟩ : ∃ VS, VS = Lib.setCells C.data.toList := ⟨_, rfl⟩
    rw [← hVS] at hsz hz hone ⊢
    have HVS := Lib.hid hVS
    have Hsz := Lib.hid hsz
    have Hz := Lib.hid hz
    have Hone := Lib.hid hone
    clear hVS hsz hz hone h256
    have hB1 := (Below.refl w.heap.size w).alloc (Nat.le_refl _) (.cells VS 133)
    generalize (w.alloc (.cells VS 133)) = x1 at *
    go_wp2_with ((with_reducible refine at_store 133 ?_); refine wpList_store_new rfl 133 _ _ rfl x1.heap.size rfl VS (Array.replicate 256 (.bool false)) 133 rfl rfl Hsz.out Hz.out Hone.out ?_)
    have hset : SetAt (x1.alloc (.cells VS 133)) x1.heap.size (inC C) := set_at _ _ _ (by rw [heap_alloc_new, HVS.out]; rfl)
    refine (trimLeft_any _ x1.heap.size _ hset s hs).mono ?_
    rintro e y ⟨rfl, rfl⟩
    have HB := Lib.hid (hB1.alloc hB1.size (.cells VS 133))
    clear hB1 hset
    go_wp2_with fail
    go_ret
    exact ⟨rfl, HB.out⟩
set_option maxRecDepth 100000 in
set_option maxHeartbeats 8000000 in
theorem trim_set (w : World) (s : ByteArray) (hs : s.size ≤ 1048576) (C : ByteArray) (hC : 2 ≤ C.size) (hC3 : C.size ≤ 3) (hasc : ∀ (j : Nat) b, C.data.toList[j]? = some b → b.toNat < 128) :
    Calls Tryz.prog 68 #[.string s, .string C] w fun e w' => e = .returned (.string (mkS ((((toL s).reverse.dropWhile (inC C)).reverse).dropWhile (inC C)))) ∧ Below w.heap.size w w' := by
  by_cases h0 : toL s = []
  · have hb : (s.toList == []) = true := by rw [show s.toList = toL s from Lib.toList_data s, h0]; rfl
    have H0 := Lib.hid h0
    clear h0
    go_enter Tryz.func68, Tryz.ntmps68
    go_wp2_with fail
    go_ret
    refine ⟨congrArg (fun z => Ending.returned (.string z)) ?_, Below.refl _ _⟩
    apply toL_inj
    rw [toL_mkS, H0.out]
    rfl
  · have hb : (s.toList == []) = false := beq_eq_false_iff_ne.2 (by rw [show s.toList = toL s from Lib.toList_data s]; exact h0)
    have hbC : (C.toList == []) = false := beq_eq_false_iff_ne.2 (by
      rw [show C.toList = toL C from Lib.toList_data C]
      intro h
      have := congrArg List.length h
      rw [toL_len, List.length_nil] at this
      omega)
    have hC1 : ((C.size : Int) == 1) = false := by rw [beq_eq_false_iff_ne]; omega
    have hmk := Tryz.strings_makeASCIISet zeroSet C w (by omega) hasc
    have Hmk := Lib.hid hmk
    clear h0 hmk
    go_enter Tryz.func68, Tryz.ntmps68
    go_wp2_with fail
    refine Hmk.out.mono ?_
    rintro e x1 ⟨rfl, rfl⟩
    clear Hmk
    have h256 : (Lib.setCells C.data.toList).size = 256 := Lib.setCells_size _
    have hsz : (Tryz.prog.info? 133).map (·.size) = some (Lib.setCells C.data.toList).size := by rw [h256]; exact sizeSet
    have hz : (Array.replicate 256 (Value.bool false)).size = (Lib.setCells C.data.toList).size := by rw [h256]; simp
    have hone := Lib.setCells_one C.data.toList
    obtain ⟨VS, hVS⟩ : ∃ VS, VS = Lib.setCells C.data.toList := ⟨_, rfl⟩
    rw [← hVS] at hsz hz hone ⊢
    have HVS := Lib.hid hVS
    have Hsz := Lib.hid hsz
    have Hz := Lib.hid hz
    have Hone := Lib.hid hone
    clear hVS hsz hz hone h256
    have hB1 := (Below.refl w.heap.size w).alloc (Nat.le_refl _) (.cells VS 133)
    generalize (w.alloc (.cells VS 133)) = x1 at *
    go_wp2_with ((with_reducible refine at_store 133 ?_); refine wpList_store_new rfl 133 _ _ rfl x1.heap.size rfl VS (Array.replicate 256 (.bool false)) 133 rfl rfl Hsz.out Hz.out Hone.out ?_)
    have hset : SetAt (x1.alloc (.cells VS 133)) x1.heap.size (inC C) := set_at _ _ _ (by rw [heap_alloc_new, HVS.out]; rfl)
    have Hset := Lib.hid hset
    refine (trimRight_any _ x1.heap.size _ hset s hs).mono ?_
    rintro e y ⟨rfl, rfl⟩
    have HB := Lib.hid (hB1.alloc hB1.size (.cells VS 133))
    clear hB1 hset
    obtain ⟨Q, hQ⟩ : ∃ Q, Q = mkS (((toL s).reverse.dropWhile (inC C)).reverse) := ⟨_, rfl⟩
    have hQz : Q.size ≤ 1048576 := by
      have h1 : (((toL s).reverse.dropWhile (inC C)).reverse).length ≤ (toL s).length := by
        rw [List.length_reverse]
        have h2 := (List.dropWhile_suffix (p := inC C) (l := (toL s).reverse)).length_le
        rw [List.length_reverse] at h2
        exact h2
      rw [toL_len] at h1
      rw [hQ]
      simp only [mkS, ByteArray.size, List.size_toArray]
      omega
    rw [← hQ]
    have HQ := Lib.hid hQ
    clear hQ
    go_wp2_with fail
    refine (trimLeft_any _ x1.heap.size _ Hset.out Q hQz).mono ?_
    rintro e y ⟨rfl, rfl⟩
    go_wp2_with fail
    go_ret
    exact ⟨congrArg (fun z => Ending.returned (.string z)) (by rw [HQ.out, toL_mkS]), HB.out⟩
end Go.Proofs.YtniphdhbgebedaaGreatDoor
