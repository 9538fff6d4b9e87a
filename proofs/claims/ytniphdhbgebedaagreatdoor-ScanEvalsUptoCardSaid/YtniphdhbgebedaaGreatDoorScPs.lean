/-
  The parser of constraints: the whole; parse.
-/
import Derived.Test.YtniphdhbgebedaaGreatDoorScNt
namespace Go.Proofs.YtniphdhbgebedaaGreatDoor
open Go.RowKit

set_option linter.unusedSimpArgs false

set_option linter.unusedSimpArgs false

attribute [local go_sem] lt1 lt2 lt3 lt4 lt5 lt6 neq73 eql73 neq73n eql73n run_store_nilFunc run_store_func

theorem not_enter (args : Array Value) (x : World) : (callFunc 137 args).run Tryz.prog x = .ok (.enter 137 args) x := call_ok _ _ Tryz.func137 (by kernel_rfl) (by kernel_rfl) args x
theorem and_enter (args : Array Value) (x : World) : (callFunc 107 args).run Tryz.prog x = .ok (.enter 107 args) x := call_ok _ _ Tryz.func107 (by kernel_rfl) (by kernel_rfl) args x
theorem and_any (w : World) (b : Nat) (s : List UInt8) (h : PrAt w b s) (hs : s.length ≤ 1048576)
    (hpart : ∀ (x : World) (s' : List UInt8), s'.length ≤ s.length → PrAt x b s' → Calls Tryz.prog 137 #[.pointer (some ⟨b, 0, none⟩)] x (PrPost x b (.at 0) s')) :
    Calls Tryz.prog 107 #[.pointer (some ⟨b, 0, none⟩)] w (PrPost w b (.at 1) s) := by
  have hch := chain_any w b 0 137 s h hs (by simp [sgn]) not_enter hpart
  rw [show mkS (sgn (0 + 1)) = ⟨#[38, 38]⟩ from rfl, show botF (0 + 1) = 138 from rfl] at hch
  have HC := Lib.hid hch
  clear hch hpart h
  go_enter Tryz.func107, Tryz.ntmps107
  go_wp2_with fail
  refine HC.out.mono ?_
  rintro e y ⟨v, res, r, rfl, h1, h2, h3, h4⟩
  have HP : Hid (PrPost w b (.at 1) s (.returned v) y) := Lib.hid ⟨v, res, r, rfl, h1, h2, h3, h4⟩
  clear h1 h2 h3 h4
  go_wp2_with fail
  go_ret
  exact HP.out
theorem or_any (w : World) (b : Nat) (s : List UInt8) (h : PrAt w b s) (hs : s.length ≤ 1048576)
    (hpart : ∀ (x : World) (s' : List UInt8), s'.length ≤ s.length → PrAt x b s' → Calls Tryz.prog 107 #[.pointer (some ⟨b, 0, none⟩)] x (PrPost x b (.at 1) s')) :
    Calls Tryz.prog 67 #[.pointer (some ⟨b, 0, none⟩)] w (PrPost w b (.at 2) s) := by
  have hch := chain_any w b 1 107 s h hs (by simp [sgn]) and_enter hpart
  rw [show mkS (sgn (1 + 1)) = ⟨#[124, 124]⟩ from rfl, show botF (1 + 1) = 108 from rfl] at hch
  have HC := Lib.hid hch
  clear hch hpart h
  go_enter Tryz.func67, Tryz.ntmps67
  go_wp2_with fail
  refine HC.out.mono ?_
  rintro e y ⟨v, res, r, rfl, h1, h2, h3, h4⟩
  have HP : Hid (PrPost w b (.at 2) s (.returned v) y) := Lib.hid ⟨v, res, r, rfl, h1, h2, h3, h4⟩
  clear h1 h2 h3 h4
  go_wp2_with fail
  go_ret
  exact HP.out
theorem par_any (b : Nat) : ∀ (L : Nat) (x : World) (s : List UInt8), s.length ≤ L → s.length ≤ 1048576 → PrAt x b s →
    Calls Tryz.prog 137 #[.pointer (some ⟨b, 0, none⟩)] x (PrPost x b (.at 0) s) ∧ Calls Tryz.prog 107 #[.pointer (some ⟨b, 0, none⟩)] x (PrPost x b (.at 1) s) ∧ Calls Tryz.prog 67 #[.pointer (some ⟨b, 0, none⟩)] x (PrPost x b (.at 2) s) := by
  intro L
  induction L with
  | zero =>
    have hn : ∀ (x : World) (s : List UInt8), s.length ≤ 0 → s.length ≤ 1048576 → PrAt x b s → Calls Tryz.prog 137 #[.pointer (some ⟨b, 0, none⟩)] x (PrPost x b (.at 0) s) := fun x s h1 h2 hp => not_any x b s hp h2 (fun _ s' h => by omega) (fun _ s' h => by omega)
    have ha : ∀ (x : World) (s : List UInt8), s.length ≤ 0 → s.length ≤ 1048576 → PrAt x b s → Calls Tryz.prog 107 #[.pointer (some ⟨b, 0, none⟩)] x (PrPost x b (.at 1) s) := fun x s h1 h2 hp => and_any x b s hp h2 fun x' s' h hp' => hn x' s' (by omega) (by omega) hp'
    exact fun x s h1 h2 hp => ⟨hn x s h1 h2 hp, ha x s h1 h2 hp, or_any x b s hp h2 fun x' s' h hp' => ha x' s' (by omega) (by omega) hp'⟩
  | succ L ih =>
    have hn : ∀ (x : World) (s : List UInt8), s.length ≤ L + 1 → s.length ≤ 1048576 → PrAt x b s → Calls Tryz.prog 137 #[.pointer (some ⟨b, 0, none⟩)] x (PrPost x b (.at 0) s) := fun x s h1 h2 hp => not_any x b s hp h2 (fun x' s' h hp' => (ih x' s' (by omega) (by omega) hp').1) (fun x' s' h hp' => (ih x' s' (by omega) (by omega) hp').2.2)
    have ha : ∀ (x : World) (s : List UInt8), s.length ≤ L + 1 → s.length ≤ 1048576 → PrAt x b s → Calls Tryz.prog 107 #[.pointer (some ⟨b, 0, none⟩)] x (PrPost x b (.at 1) s) := fun x s h1 h2 hp => and_any x b s hp h2 fun x' s' h hp' => hn x' s' (by omega) (by omega) hp'
    exact fun x s h1 h2 hp => ⟨hn x s h1 h2 hp, ha x s h1 h2 hp, or_any x b s hp h2 fun x' s' h hp' => ha x' s' (by omega) (by omega) hp'⟩
/-- what parse tells: no number but 0 where there is an expression -/
def PsPost (w : World) (s : List UInt8) (e : Ending) (w' : World) : Prop := Below w.heap.size w w' ∧
  ((1000 < s.length ∧ e = .returned (.tuple #[.nilFunc, .int .i64 13])) ∨ (s.length ≤ 1000 ∧ (¬ ∃ x, Whole s x) ∧ e = .returned (.tuple #[.nilFunc, .int .i64 11])) ∨
    (s.length ≤ 1000 ∧ ∃ x v b, Whole s x ∧ ExAt w' b x v ∧ e = .returned (.tuple #[v, .int .i64 0])))
theorem trim_nil {p : UInt8 → Bool} (r : List UInt8) : ((r.reverse.dropWhile p).reverse).dropWhile p = [] ↔ r.all p = true := by
  have key : ∀ l : List UInt8, l.dropWhile p = [] ↔ l.all p = true := by
    intro l
    induction l with
    | nil => simp
    | cons c t ih =>
      by_cases h : p c = true
      · rw [List.dropWhile_cons_of_pos h, ih]; simp [h]
      · rw [List.dropWhile_cons_of_neg h]; simp [h]
  rw [key]
  constructor
  · intro h
    have h2 : (r.reverse.dropWhile p).all p = true := by rw [← List.all_reverse]; exact h
    have h3 : r.reverse.all p = true := by
      have h4 := List.takeWhile_append_dropWhile (p := p) (l := r.reverse)
      rw [← h4, List.all_append, h2, Bool.and_true, List.all_takeWhile]
    rw [← List.all_reverse]
    exact h3
  · intro h
    have : r.reverse.dropWhile p = [] := by rw [key, List.all_reverse]; exact h
    rw [this]
    rfl
set_option maxRecDepth 100000 in
set_option maxHeartbeats 16000000 in
theorem parse_any (w : World) (s : List UInt8) : Calls Tryz.prog 34 #[.string (mkS s)] w (PsPost w s) := by
  obtain ⟨S, hS⟩ : ∃ S, mkS s = S := ⟨_, rfl⟩
  have hSz : S.size = s.length := by rw [← hS]; simp [mkS, ByteArray.size]
  rw [hS]
  by_cases h1 : 1000 < s.length
  · have hI : (1000 : Int) < S.size := by rw [hSz]; omega
    have HP : Hid (PsPost w s (.returned (.tuple #[.nilFunc, .int .i64 13])) w) := Lib.hid ⟨Below.refl _ _, .inl ⟨h1, rfl⟩⟩
    clear h1 hSz hS
    go_enter Tryz.func34, Tryz.ntmps34
    go_wp2_with fail
    exact bodyPost_ret (results_tmp2 rfl _ _ _) rfl (by first | exact HP.out | go_show)
  · have hI : ¬ (1000 : Int) < S.size := by rw [hSz]; omega
    have hle : s.length ≤ 1000 := by omega
    obtain ⟨z, hz⟩ : ∃ z, w.alloc (.cells #[.string S] 102) = z := ⟨_, rfl⟩
    have hB : Below w.heap.size w z := by rw [← hz]; exact (Below.refl _ w).alloc (Nat.le_refl _) _
    have hpz : PrAt z w.heap.size s := by rw [← hz, ← hS]; exact heap_alloc_new _ _
    have hor := (par_any w.heap.size s.length z s (Nat.le_refl _) (by omega) hpz).2.2
    have HB := Lib.hid hB
    have HO := Lib.hid hor
    have HZ := Lib.hid hz
    clear hB hpz hor h1 hz hSz hS
    go_enter Tryz.func34, Tryz.ntmps34
    go_wp2_with fail
    rw [HZ.out]
    refine HO.out.mono ?_
    rintro e y ⟨v, res, r, rfl, hpar, hpy, hF, hrs⟩
    have hBy : Below w.heap.size w y := HB.out.trans (hF.below HB.out.size (by simp))
    cases res with
    | none =>
      have hv : v = .nilFunc := hrs
      subst hv
      have HP : Hid (PsPost w s (.returned (.tuple #[.nilFunc, .int .i64 11])) y) := Lib.hid ⟨hBy, .inr (.inl ⟨hle, (fun ⟨x, r', hp', _⟩ => absurd (hpar.det hp').1 (by simp)), rfl⟩)⟩
      clear hpar hpy hF hrs hBy
      go_wp2_with fail
      exact bodyPost_ret (results_tmp2 rfl _ _ _) rfl (by first | exact HP.out | go_show)
    | some x =>
      have hv : ExAt y w.heap.size x v := hrs
      obtain ⟨fx, cx, rfl⟩ := hv.form
      have cy : y.cell? ⟨w.heap.size, 0, none⟩ = some (.string (mkS r)) := (blk_cells hpy).1 0
      have hrl := par_len hpar
      have htr := trim_set y (mkS r) (by simp only [mkS, ByteArray.size, List.size_toArray]; omega) ⟨#[32, 9]⟩ (by decide) (by decide) (by
        intro j c hc
        have : c = 32 ∨ c = 9 := by
          have hm := List.mem_of_getElem? hc
          simpa using hm
        rcases this with rfl | rfl <;> decide)
      rw [inC_blank, toL_mkS] at htr
      have HT := Lib.hid htr
      have HV := Lib.hid hv
      have Hpar := Lib.hid hpar
      have HBy := Lib.hid hBy
      clear hpar hpy hF hrs hBy hv htr
      go_wp2_with fail
      refine HT.out.mono ?_
      rintro e y2 ⟨rfl, hB2⟩
      have hB3 : Below w.heap.size w y2 := HBy.out.trans (hB2.mono HBy.out.size)
      have hv2 : ExAt y2 w.heap.size x (.func (.func fx) #[] cx) := HV.out.keep (Fr.of_below hB2 _)
      obtain ⟨K, hK⟩ : ∃ K, ((r.reverse.dropWhile blankB).reverse).dropWhile blankB = K := ⟨_, rfl⟩
      have hKr := trim_nil (p := blankB) r
      rw [hK] at hKr ⊢
      clear hB2 HT
      by_cases hb : K = []
      · have HP : Hid (PsPost w s (.returned (.tuple #[.func (.func fx) #[] cx, .int .i64 0])) y2) := Lib.hid ⟨hB3, .inr (.inr ⟨hle, x, _, _, ⟨r, Hpar.out, hKr.1 hb⟩, hv2, rfl⟩)⟩
        have hk0 : ((mkS K).toList == []) = true := by rw [toList_toL, toL_mkS, hb]; rfl
        generalize mkS K = KS at *
        clear hKr hK hB3 hv2 hb
        go_wp2_with fail
        exact bodyPost_ret (results_tmp2 rfl _ _ _) rfl (by first | exact HP.out | go_show)
      · have HP : Hid (PsPost w s (.returned (.tuple #[.nilFunc, .int .i64 11])) y2) := Lib.hid ⟨hB3, .inr (.inl ⟨hle, (fun ⟨x', r', hp', ha⟩ => by
          obtain ⟨_, e2⟩ := Hpar.out.det hp'
          rw [← e2] at ha
          exact hb (hKr.2 ha)), rfl⟩)⟩
        have hk0 : ((mkS K).toList == []) = false := by rw [toList_toL, toL_mkS]; exact beq_list hb
        generalize mkS K = KS at *
        clear hKr hK hB3 hv2 hb
        go_wp2_with fail
        exact bodyPost_ret (results_tmp2 rfl _ _ _) rfl (by first | exact HP.out | go_show)
end Go.Proofs.YtniphdhbgebedaaGreatDoor
