/-
  The parser of constraints: what ! binds, tags, parentheses.
-/
import Derived.Test.YtniphdhbgebedaaGreatDoorScCx
namespace Go.Proofs.YtniphdhbgebedaaGreatDoor
open Go.RowKit

set_option linter.unusedSimpArgs false

set_option linter.unusedSimpArgs false

attribute [local go_sem] lt1 lt2 lt3 lt4 lt5 lt6 neq73 eql73 neq73n eql73n run_store_nilFunc run_store_func

theorem tw_at {p : UInt8 → Bool} : ∀ {l : List UInt8} {k : Nat}, k ≤ l.length → (∀ j, j < k → p (l.getD j 0) = true) → (k = l.length ∨ p (l.getD k 0) = false) → l.takeWhile p = l.take k ∧ l.dropWhile p = l.drop k
  | [], k, hk, _, _ => by obtain rfl : k = 0 := by simpa using hk
                          exact ⟨rfl, rfl⟩
  | c :: r, 0, _, _, he => by
    have : p c = false := by
      rcases he with h | h
      · simp at h
      · simpa using h
    simp [this]
  | c :: r, k + 1, hk, h, he => by
    have hc : p c = true := by simpa using h 0 (by omega)
    obtain ⟨h1, h2⟩ := tw_at (p := p) (l := r) (k := k) (by simpa using hk) (fun j hj => by simpa using h (j + 1) (by omega)) (by
      rcases he with he | he
      · left; simpa using he
      · right; simpa using he)
    simp [hc, h1, h2]
def TgRel (l : List UInt8) (iv : Value) : Prop := ∃ k, k ≤ l.length ∧ iv = .int .i64 (k : Nat) ∧ ∀ j, j < k → tagB (l.getD j 0) = true
set_option maxRecDepth 100000 in
set_option maxHeartbeats 16000000 in
theorem not_any (w : World) (b : Nat) (s : List UInt8) (h : PrAt w b s) (hs : s.length ≤ 1048576)
    (hnot : ∀ (x : World) (s' : List UInt8), s'.length < s.length → PrAt x b s' → Calls Tryz.prog 137 #[.pointer (some ⟨b, 0, none⟩)] x (PrPost x b (.at 0) s'))
    (hor : ∀ (x : World) (s' : List UInt8), s'.length < s.length → PrAt x b s' → Calls Tryz.prog 67 #[.pointer (some ⟨b, 0, none⟩)] x (PrPost x b (.at 2) s')) :
    Calls Tryz.prog 137 #[.pointer (some ⟨b, 0, none⟩)] w (PrPost w b (.at 0) s) := by
  have hsign : ∀ (x : World) (g s' : List UInt8), s'.length ≤ 1048576 → PrAt x b s' → Calls Tryz.prog 136 #[.pointer (some ⟨b, 0, none⟩), .string ⟨g.toArray⟩] x (SgPost x b g s') := fun x g s' hl hp => sign_any x b g s' hp hl
  have HSign := Lib.hid hsign
  have HNot := Lib.hid hnot
  have HOr := Lib.hid hor
  have H := Lib.hid h
  clear hsign hnot hor h
  go_enter Tryz.func137, Tryz.ntmps137
  go_wp2_with fail
  refine (HSign.out w [33] s hs H.out).mono ?_
  rintro e y1 ⟨rfl, hp1, hF1⟩
  obtain ⟨t1, s1, hsg1⟩ : ∃ t s1, signP [33] s = (t, s1) := ⟨_, _, rfl⟩
  rw [hsg1] at hp1 ⊢
  simp only at hp1 ⊢
  have hl1 := sign_len hsg1
  cases t1 with
  | true =>
    have hlt := hl1.2 rfl (by simp)
    have Hp1 := Lib.hid hp1
    have HF1 := Lib.hid hF1
    have Hsg1 := Lib.hid hsg1
    clear hp1 hF1 hsg1 hl1
    go_wp2_with fail
    refine (HNot.out y1 s1 hlt Hp1.out).mono ?_
    rintro e y2 ⟨v, res, r, rfl, hpar, hp2, hF2, hrs⟩
    have hbl := lt_of_heap hp2
    obtain ⟨z, hz⟩ : ∃ z, y2.alloc (.cells #[v] 73) = z := ⟨_, rfl⟩
    have hB : Below y2.heap.size y2 z := by rw [← hz]; exact (Below.refl _ y2).alloc (Nat.le_refl _) _
    have hcz : z.heap[y2.heap.size]? = some (.cells #[v] 73 (0, 0)) := by rw [← hz]; exact heap_alloc_new _ _
    have hpz : PrAt z b r := (hB.block b hbl).trans hp2
    have hFz : Fr [b] w z := (HF1.out.trans hF2).trans (Fr.of_below hB _)
    cases res with
    | none =>
      have hv : v = .nilFunc := hrs
      subst hv
      have HP : Hid (PrPost w b (.at 0) s (.returned .nilFunc) z) := Lib.hid ⟨_, none, r, rfl, .bangNo Hsg1.out hpar, hpz, hFz, rfl⟩
      subst hz
      clear hpar hp2 hF2 hrs hB hcz hpz hFz
      go_wp2_with fail
      go_ret
      exact HP.out
    | some x =>
      have hv : ExAt y2 b x v := hrs
      have hnot1 : ExAt z b (.not x) (.func (.func 160) #[] #[.pointer (some ⟨y2.heap.size, 0, none⟩)]) := ⟨_, v, rfl, by omega, hcz, hv.keep (Fr.of_below hB _)⟩
      have HP : Hid (PrPost w b (.at 0) s (.returned (.func (.func 160) #[] #[.pointer (some ⟨y2.heap.size, 0, none⟩)])) z) := Lib.hid ⟨_, some (.not x), r, rfl, .bang Hsg1.out hpar, hpz, hFz, hnot1⟩
      obtain ⟨fx, cx, rfl⟩ := hv.form
      subst hz
      clear hpar hp2 hF2 hrs hB hcz hpz hFz hv hnot1
      go_wp2_with fail
      go_ret
      exact HP.out
  | false =>
    have hle1 := hl1.1
    have Hp1 := Lib.hid hp1
    have HF1 := Lib.hid hF1
    have Hsg1 := Lib.hid hsg1
    clear hp1 hF1 hsg1 hl1
    go_wp2_with fail
    refine (HSign.out y1 [40] s1 (by omega) Hp1.out).mono ?_
    rintro e y2 ⟨rfl, hp2, hF2⟩
    obtain ⟨t2, s2, hsg2⟩ : ∃ t s2, signP [40] s1 = (t, s2) := ⟨_, _, rfl⟩
    rw [hsg2] at hp2 ⊢
    simp only at hp2 ⊢
    have hl2 := sign_len hsg2
    have hF2' := HF1.out.trans hF2
    cases t2 with
    | true =>
      have hlt := hl2.2 rfl (by simp)
      have Hp2 := Lib.hid hp2
      have HF2 := Lib.hid hF2'
      have Hsg2 := Lib.hid hsg2
      clear hp2 hF2 hF2' hsg2 hl2
      go_wp2_with fail
      refine (HOr.out y2 s2 (by omega) Hp2.out).mono ?_
      rintro e y3 ⟨v, res, s3, rfl, hpar, hp3, hF3, hrs⟩
      have hF3' := HF2.out.trans hF3
      have hl3 := par_len hpar
      cases res with
      | none =>
        have hv : v = .nilFunc := hrs
        subst hv
        have HP : Hid (PrPost w b (.at 0) s (.returned .nilFunc) y3) := Lib.hid ⟨_, none, s3, rfl, .inNo Hsg1.out Hsg2.out hpar, hp3, hF3', rfl⟩
        clear hpar hp3 hF3 hF3' hrs
        go_wp2_with fail
        go_ret
        exact HP.out
      | some x =>
        have hv : ExAt y3 b x v := hrs
        obtain ⟨fx, cx, rfl⟩ := hv.form
        have HV := Lib.hid hv
        have Hpar := Lib.hid hpar
        have Hp3 := Lib.hid hp3
        have HF3 := Lib.hid hF3'
        clear hpar hp3 hF3 hF3' hrs hv
        go_wp2_with fail
        refine (HSign.out y3 [41] s3 (by omega) Hp3.out).mono ?_
        rintro e y4 ⟨rfl, hp4, hF4⟩
        obtain ⟨t3, s4, hsg3⟩ : ∃ t s4, signP [41] s3 = (t, s4) := ⟨_, _, rfl⟩
        rw [hsg3] at hp4 ⊢
        simp only at hp4 ⊢
        have hF4' := HF3.out.trans hF4
        cases t3 with
        | true =>
          have HP : Hid (PrPost w b (.at 0) s (.returned (.func (.func fx) #[] cx)) y4) := Lib.hid ⟨_, some x, s4, rfl, .paren Hsg1.out Hsg2.out Hpar.out hsg3, hp4, hF4', HV.out.keep hF4⟩
          clear hp4 hF4 hF4' hsg3
          go_wp2_with fail
          go_ret
          exact HP.out
        | false =>
          have HP : Hid (PrPost w b (.at 0) s (.returned .nilFunc) y4) := Lib.hid ⟨_, none, s4, rfl, .open_ Hsg1.out Hsg2.out Hpar.out hsg3, hp4, hF4', rfl⟩
          clear hp4 hF4 hF4' hsg3
          go_wp2_with fail
          go_ret
          exact HP.out
    | false =>
      have hle2 := hl2.1
      have cw : y2.cell? ⟨b, 0, none⟩ = some (.string (mkS s2)) := (blk_cells hp2).1 0
      have fw : y2.frozen? ⟨b, 0, none⟩ = false := (blk_cells hp2).2.1 0
      have hbl := lt_of_heap hp2
      obtain ⟨S, hS⟩ : ∃ S, mkS s2 = S := ⟨_, rfl⟩
      have hSz : S.size = s2.length := by rw [← hS]; simp [mkS, ByteArray.size]
      have hSl : toL S = s2 := by rw [← hS]; rfl
      rw [hS] at cw
      have hSb : S.size ≤ 1048576 := by omega
      have Hp2 := Lib.hid hp2
      have HF2 := Lib.hid hF2'
      have Hsg2 := Lib.hid hsg2
      have HSl := Lib.hid hSl
      have HSz := Lib.hid hSz
      have HS := Lib.hid hS
      clear hp2 hF2 hF2' hsg2 hl2 hS hSl hSz
      go_wp2_with fail
      go_loop [5] (fun iv => TgRel s2 iv) (fun iv => S.size - (intOf iv).toNat)
      case atStart => exact ⟨0, by omega, rfl, fun j hj => by omega⟩
      case round =>
        obtain ⟨k, hk, rfl, hok⟩ := hrel
        have hkr : (0 : Int) ≤ k := by omega
        have Hok := Lib.hid hok
        clear hok
        by_cases hlt : k < s2.length
        · have hkI : (k : Int) < S.size := by rw [HSz.out]; omega
          have hkS : k < S.size := by rw [HSz.out]; exact hlt
          have hsb : S[k] = s2.getD k 0 := by rw [str_byte hkS, HSl.out]
          obtain ⟨q, hq⟩ : ∃ q, q = s2.getD k 0 := ⟨_, rfl⟩
          rw [← hq] at hsb
          obtain ⟨t, ht⟩ : ∃ t, tagB q = t := ⟨_, rfl⟩
          have htb := tagByte_any q y2
          rw [ht] at htb
          have HTB := Lib.hid htb
          clear htb
          cases t with
          | true =>
            have HR : Hid (TgRel s2 (.int .i64 ((k : Int) + 1))) := Lib.hid ⟨k + 1, by omega, by go_num, fun j hj => by
              rcases Nat.lt_or_ge j k with h2 | h2
              · exact Hok.out j h2
              · obtain rfl : j = k := by omega
                rw [← hq]; exact ht⟩
            clear hq ht
            go_wp2_with (go_at_call 161; refine HTB.out.mono ?_; rintro e y ⟨rfl, rfl⟩)
            exact ⟨HR.out, by simp [intOf]; omega⟩
          | false =>
            have htw := tw_at (p := tagB) hk Hok.out (by right; rw [← hq]; exact ht)
            by_cases hk0 : k = 0
            · have HP : Hid (PrPost w b (.at 0) s (.returned .nilFunc) y2) := Lib.hid ⟨_, none, s2, rfl, .noTag Hsg1.out Hsg2.out (by rw [htw.1, hk0]; rfl), Hp2.out, HF2.out, rfl⟩
              have hkz : ((k : Int) == 0) = true := by rw [beq_iff_eq]; omega
              clear hq ht
              clear htw hk0
              go_wp2_with (go_at_call 161; refine HTB.out.mono ?_; rintro e y ⟨rfl, rfl⟩)
              go_ret
              exact HP.out
            · have hkz : ((k : Int) == 0) = false := by rw [beq_eq_false_iff_ne]; omega
              have hkS : k ≤ S.size := by rw [HSz.out]; exact hk
              have hkSI : (k : Int) ≤ S.size := by omega
              obtain ⟨z, hz⟩ : ∃ z, (y2.setCell ⟨b, 0, none⟩ (.string (S.extract k S.size))).alloc (.cells #[.string (S.extract 0 k)] 9) = z := ⟨_, rfl⟩
              have e1 : S.extract k S.size = mkS (s2.drop k) := by rw [← HS.out, drop_bytes]
              have e2 : S.extract 0 k = mkS (s2.take k) := by rw [← HS.out, take_bytes]
              have hu : PrAt (y2.setCell ⟨b, 0, none⟩ (.string (S.extract k S.size))) b (s2.drop k) := by rw [e1]; exact Hp2.out.set _
              have hsu : (y2.setCell ⟨b, 0, none⟩ (.string (S.extract k S.size))).heap.size = y2.heap.size := by simp
              have hpz : PrAt z b (s2.drop k) := by rw [← hz]; exact (Below.heap_alloc _ _ _ (lt_of_heap hu)).trans hu
              have hcz : z.heap[y2.heap.size]? = some (.cells #[.string (mkS (s2.take k))] 9 (0, 0)) := by
                rw [← hz, e2, ← hsu]
                exact heap_alloc_new _ _
              have hFz : Fr [b] w z := by rw [← hz]; exact (HF2.out.trans (Fr.setCell _ _ _ _ (by simp))).trans (Fr.alloc _ _ _)
              have hne : s2.takeWhile tagB ≠ [] := by
                rw [htw.1]
                intro h
                have := congrArg List.length h
                rw [List.length_take, List.length_nil] at this
                omega
              have hpar := Par.tag Hsg1.out Hsg2.out hne
              rw [htw.1, htw.2] at hpar
              have HP : Hid (PrPost w b (.at 0) s (.returned (.func (.func 162) #[] #[.pointer (some ⟨y2.heap.size, 0, none⟩)])) z) := Lib.hid ⟨_, some (.tag (s2.take k)), s2.drop k, rfl, hpar, hpz, hFz, ⟨_, rfl, by omega, hcz⟩⟩
              clear hq ht
              subst hz
              clear htw hk0 e1 e2 hu hsu hpz hcz hFz hne hpar
              go_wp2_with (go_at_call 161; refine HTB.out.mono ?_; rintro e y ⟨rfl, rfl⟩)
              go_ret
              exact HP.out
        · have hkI : ¬ (k : Int) < S.size := by rw [HSz.out]; omega
          have hke : k = s2.length := by omega
          have htw := tw_at (p := tagB) hk Hok.out (by left; exact hke)
          by_cases hk0 : k = 0
          · have HP : Hid (PrPost w b (.at 0) s (.returned .nilFunc) y2) := Lib.hid ⟨_, none, s2, rfl, .noTag Hsg1.out Hsg2.out (by rw [htw.1, hk0]; rfl), Hp2.out, HF2.out, rfl⟩
            have hkz : ((k : Int) == 0) = true := by rw [beq_iff_eq]; omega
            clear hke
            clear htw hk0
            go_wp2_with fail
            go_ret
            exact HP.out
          · have hkz : ((k : Int) == 0) = false := by rw [beq_eq_false_iff_ne]; omega
            have hkS : k ≤ S.size := by rw [HSz.out]; exact hk
            have hkSI : (k : Int) ≤ S.size := by omega
            obtain ⟨z, hz⟩ : ∃ z, (y2.setCell ⟨b, 0, none⟩ (.string (S.extract k S.size))).alloc (.cells #[.string (S.extract 0 k)] 9) = z := ⟨_, rfl⟩
            have e1 : S.extract k S.size = mkS (s2.drop k) := by rw [← HS.out, drop_bytes]
            have e2 : S.extract 0 k = mkS (s2.take k) := by rw [← HS.out, take_bytes]
            have hu : PrAt (y2.setCell ⟨b, 0, none⟩ (.string (S.extract k S.size))) b (s2.drop k) := by rw [e1]; exact Hp2.out.set _
            have hsu : (y2.setCell ⟨b, 0, none⟩ (.string (S.extract k S.size))).heap.size = y2.heap.size := by simp
            have hpz : PrAt z b (s2.drop k) := by rw [← hz]; exact (Below.heap_alloc _ _ _ (lt_of_heap hu)).trans hu
            have hcz : z.heap[y2.heap.size]? = some (.cells #[.string (mkS (s2.take k))] 9 (0, 0)) := by
              rw [← hz, e2, ← hsu]
              exact heap_alloc_new _ _
            have hFz : Fr [b] w z := by rw [← hz]; exact (HF2.out.trans (Fr.setCell _ _ _ _ (by simp))).trans (Fr.alloc _ _ _)
            have hne : s2.takeWhile tagB ≠ [] := by
              rw [htw.1]
              intro h
              have := congrArg List.length h
              rw [List.length_take, List.length_nil] at this
              omega
            have hpar := Par.tag Hsg1.out Hsg2.out hne
            rw [htw.1, htw.2] at hpar
            have HP : Hid (PrPost w b (.at 0) s (.returned (.func (.func 162) #[] #[.pointer (some ⟨y2.heap.size, 0, none⟩)])) z) := Lib.hid ⟨_, some (.tag (s2.take k)), s2.drop k, rfl, hpar, hpz, hFz, ⟨_, rfl, by omega, hcz⟩⟩
            clear hke
            subst hz
            clear htw hk0 e1 e2 hu hsu hpz hcz hFz hne hpar
            go_wp2_with fail
            go_ret
            exact HP.out
end Go.Proofs.YtniphdhbgebedaaGreatDoor
