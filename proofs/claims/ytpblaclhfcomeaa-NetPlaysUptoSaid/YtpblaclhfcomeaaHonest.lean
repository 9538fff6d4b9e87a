/-
  NetHonest: without a fault the page comes whole: the walk.
-/
import Derived.Test.YtpblaclhfcomeaaFirst
namespace Go.Proofs.Ytpblaclhfcomeaa
open Go.RowKit Go.Maps

attribute [local go_sem] lt1 lt2 lt3 lt4 lt5 lt6

/-! ### what New leaves -/
theorem many_pages : ∀ (ps : List (ByteArray × List UInt8)) (S S' : NetSt), many addPage S ps = .ok S' → S'.faults = S.faults ∧ S'.asked = S.asked ∧ (∀ u d, look S.pages u = some d → look S'.pages u = some d) ∧ (∀ p ∈ ps, look S'.pages p.1 = some p.2)
  | [], S, S', h => by cases h; exact ⟨rfl, rfl, fun _ _ h => h, by simp⟩
  | p :: ps, S, S', h => by
    unfold many at h
    cases hs : addPage S p with
    | error c => rw [hs] at h; cases h
    | ok S1 =>
      rw [hs] at h
      obtain ⟨i1, i2, i3, i4⟩ := many_pages ps S1 S' h
      unfold addPage at hs
      split at hs
      · cases hs
      · split at hs
        · cases hs
        · rename_i _ hn
          cases hs
          refine ⟨i1, i2, fun u d hu => i3 u d ?_, fun q hq => ?_⟩
          · simp only [look_put]
            rw [if_neg]
            · exact hu
            · rintro rfl; rw [hu] at hn; simp at hn
          · rcases List.mem_cons.1 hq with rfl | hq
            · exact i3 _ _ (by simp [look_put])
            · exact i4 q hq
theorem many_faults : ∀ (fs : List PFault) (S S' : NetSt), many addFault S fs = .ok S' → S'.pages = S.pages ∧ S'.asked = S.asked ∧ (∀ u k, look S.faults (u, k) = none → (∀ f ∈ fs, ¬ (f.u = u ∧ f.att = k)) → look S'.faults (u, k) = none)
  | [], S, S', h => by cases h; exact ⟨rfl, rfl, fun _ _ h _ => h⟩
  | f :: fs, S, S', h => by
    unfold many at h
    cases hs : addFault S f with
    | error c => rw [hs] at h; cases h
    | ok S1 =>
      rw [hs] at h
      obtain ⟨i1, i2, i3⟩ := many_faults fs S1 S' h
      obtain ⟨rfl, _⟩ := add_ok hs
      refine ⟨i1, i2, fun u k hu hn => i3 u k ?_ fun g hg => hn g (by simp [hg])⟩
      simp only [NetSt.add, look_put]
      rw [if_neg]
      · exact hu
      · intro e
        have := hn f (by simp)
        simp only [Prod.mk.injEq] at e
        exact this ⟨e.1.symm, e.2.symm⟩
theorem new_pages {ps : List (ByteArray × List UInt8)} {fs : List PFault} {S : NetSt} (h : newSt ps fs = .ok S) : (∀ p ∈ ps, look S.pages p.1 = some p.2) ∧ (∀ u k, (∀ f ∈ fs, ¬ (f.u = u ∧ f.att = k)) → look S.faults (u, k) = none) ∧ S.asked = [] := by
  unfold newSt at h
  cases hp : many addPage emptySt ps with
  | error c => rw [hp] at h; cases h
  | ok S1 =>
    rw [hp] at h
    obtain ⟨a1, a2, _, a4⟩ := many_pages ps _ _ hp
    obtain ⟨b1, b2, b3⟩ := many_faults fs _ _ h
    refine ⟨fun p hpp => by rw [b1]; exact a4 p hpp, fun u k hn => b3 u k (by rw [a1]; rfl) hn, by rw [b2, a2]; rfl⟩

theorem pick (a : Int) (n : Nat) (hn : 0 < n) (hm : n ≤ 1048576) : ∃ i : Nat, i < n ∧ (wrap64 (a.tmod n + n)).tmod n = (i : Int) := by
  have h1 : a.tmod n < n := Int.tmod_lt_of_pos a (by omega)
  have h2 : -(n : Int) < a.tmod n := by
    have := Int.tmod_lt_of_pos (-a) (b := (n : Int)) (by omega)
    rw [Int.neg_tmod] at this
    omega
  have h3 : wrap64 (a.tmod n + n) = a.tmod n + n := IntWalk.wrap64_in _ ⟨by omega, by omega⟩
  rw [h3]
  have h4 : 0 ≤ (a.tmod n + n).tmod n := Int.tmod_nonneg _ (by omega)
  have h5 : (a.tmod n + n).tmod n < n := Int.tmod_lt_of_pos _ (by omega)
  exact ⟨((a.tmod n + n).tmod n).toNat, by omega, by omega⟩

theorem NetAt.page_le {w : World} {nb pb fb ab : Nat} {s : Int} {S : NetSt} (h : NetAt w nb pb fb ab s S) {u : ByteArray} (hu : u.size ≤ maxLen) {d : List UInt8} (hd : look S.pages u = some d) : d.length ≤ 140737488351232 := by
  obtain ⟨v, ok, hL, _⟩ := h.page_look hu
  rcases hL with ⟨h1, _⟩ | ⟨y, h1, ⟨h2, _⟩, _⟩
  · rw [hd] at h1; cases h1
  · rw [hd] at h1; cases h1; exact h2
theorem NetAt.fault_le {w : World} {nb pb fb ab : Nat} {s : Int} {S : NetSt} (h : NetAt w nb pb fb ab s S) {u : ByteArray} (hu : u.size ≤ maxLen) {k : Int} (hk : -9223372036854775808 ≤ k ∧ k ≤ 9223372036854775807) {f : PFault} (hf : look S.faults (u, k) = some f) : f.data.length ≤ 140737488351232 := by
  obtain ⟨v, ok, hL, _⟩ := h.fault_look hu hk
  rcases hL with ⟨h1, _⟩ | ⟨y, h1, ⟨h2, _⟩, _⟩
  · rw [hf] at h1; cases h1
  · rw [hf] at h1; cases h1; exact h2
theorem NetAt.ans_le {w : World} {nb pb fb ab : Nat} {s : Int} {S : NetSt} (h : NetAt w nb pb fb ab s S) {u : ByteArray} (hu : u.size ≤ maxLen) (hc : nth S u < 4611686018427387904) : (ansOf S u).2.1.length ≤ 140737488351232 := by
  have hb : (ansBase S u).2.1.length ≤ 140737488351232 := by
    unfold ansBase
    cases hp : look S.pages u with
    | none => simp
    | some d => exact h.page_le hu hp
  unfold ansOf
  cases hf : look S.faults (u, ((nth S u + 1 : Nat) : Int)) with
  | none => exact hb
  | some f =>
    have hd := h.fault_le hu (by omega) hf
    simp only [kindDo]
    repeat' split
    all_goals simp only [List.length_nil, List.length_take]
    all_goals first | omega | exact hd | exact hb | (unfold turned; rw [List.length_set]; exact hb)

/-- round k of the requests -/
def HonRel (w : World) (nb pb fb ab : Nat) (S : NetSt) (p : ByteArray × List UInt8) (B : Nat) (blkv : Obj) (i : Value) (wr : World) : Prop :=
  ∃ (k : Nat) (Sm : NetSt), 1 ≤ k ∧ k ≤ 20 ∧ i = .int .i64 k ∧ NetAt wr nb pb fb ab 0 Sm ∧ Sm.pages = S.pages ∧ Sm.faults = S.faults ∧ nth Sm p.1 + 1 = k ∧ Below w.heap.size w wr ∧ wr.heap[B]? = some blkv
/-- does a fault strike? -/
def strikes (fs : List PFault) (u : ByteArray) (k : Nat) : Bool := fs.any fun f => decide (f.u = u) && f.att == (k : Int)
theorem strikes_snoc (fs : List PFault) (f : PFault) (u : ByteArray) (k : Nat) : strikes (fs ++ [f]) u k = (strikes fs u k || (decide (f.u = u) && f.att == (k : Int))) := by
  simp [strikes, List.any_append]
theorem str_eq (a b : ByteArray) : (a.toList == b.toList) = decide (a = b) := by
  by_cases h : a = b
  · subst h; simp
  · have h1 : decide (a = b) = false := by simpa using h
    rw [h1, beq_eq_false_iff_ne]
    intro e
    apply h
    rw [ByteArray.toList_eq, ByteArray.toList_eq] at e
    exact Go.WideShapes.bytes_inj e
def StrRel (fs : List PFault) (u : ByteArray) (k : Nat) (x : World) (s i : Value) (wr : World) : Prop :=
  ∃ (j n : Nat), j ≤ fs.length ∧ s = .bool (strikes (fs.take j) u k) ∧ i = .int .i64 j ∧ wr = x.drewN n

def HonestPost (w : World) (e : Ending) (w' : World) : Prop := e = .returned (.bool true) ∧ Below w.heap.size w w'

set_option maxHeartbeats 4000000 in
set_option maxRecDepth 100000 in
theorem honest_any (w : World) (ps : List (ByteArray × List UInt8)) (fs : List PFault) (A A2 : Option Addr) (c c2 : Nat) (which times : Int) (hp : PgAt w A c ps) (hf : FtAt w A2 c2 fs) (hsm : ps.length ≤ 1048576) (hsf : fs.length ≤ 1048576)
    (hw : -9223372036854775808 ≤ which ∧ which ≤ 9223372036854775807) (ht : -9223372036854775808 ≤ times ∧ times ≤ 9223372036854775807) :
    Calls Try.prog 3 #[.slice A ps.length c, .slice A2 fs.length c2, .int .i64 which, .int .i64 times] w (HonestPost w) := by
  have hpl : ps.length ≤ 9223372036854775807 := by have h1 := hp.le; have h2 := hp.big; unfold maxLen at h2; omega
  have hfl : fs.length ≤ 9223372036854775807 := by have h1 := hf.le; have h2 := hf.big; unfold maxLen at h2; omega
  have Hp := Lib.hid hp
  have Hf := Lib.hid hf
  clear hp hf
  go_enter Try.func3, Try.ntmps3
  go_wp2_with fail
  refine (first_any _).mono ?_
  rintro e w1 ⟨rfl, hB1⟩
  have HB1 := Lib.hid hB1
  clear hB1
  go_wp2_with fail
  refine (few_any _ ps fs A A2 c c2 (Hp.out.keep (Cells.of_below HB1.out)) (Hf.out.keep (Cells.of_below HB1.out))).mono ?_
  rintro e w2 ⟨small, rfl, n1, rfl⟩
  cases small with
  | false =>
    go_wp2
    go_ret
    exact ⟨rfl, Fr.below_drewN HB1.out _⟩
  | true =>
    by_cases h0 : ps.length = 0
    · have hb0 : ((ps.length : Int) == 0) = true := by simp [h0]
      clear h0
      go_wp2
      go_ret
      exact ⟨rfl, Fr.below_drewN HB1.out _⟩
    · have hb0 : ((ps.length : Int) == 0) = false := beq_eq_false_iff_ne.2 (by omega)
      have hpos : 0 < ps.length := by omega
      clear h0
      go_wp2_with fail
      refine (new_any _ ps fs A A2 c c2 ((Hp.out.keep (Cells.of_below HB1.out)).keep (Cells.drewN _ _)) ((Hf.out.keep (Cells.of_below HB1.out)).keep (Cells.drewN _ _))).mono ?_
      rintro e w3 ⟨hb3, ⟨S, nb, pb, fb, ab, hS, rfl, hN, hn1, hn2, hn3, hn4⟩ | ⟨c, hc, hc0, rfl⟩⟩
      rotate_left
      · have hcb : (c != 0) = true := by simpa using hc0
        have Hb3 := Lib.hid hb3
        clear hb3 hc hc0
        go_wp2_with (first | (go_at_call 9; refine (num_any _ _).mono ?_; rintro e w' ⟨rfl, rfl⟩))
        go_ret
        exact ⟨rfl, HB1.out.trans ⟨Hb3.out.os, Hb3.out.tape, Hb3.out.output, Hb3.out.size, fun k hk => Hb3.out.block k (Nat.lt_of_lt_of_le hk HB1.out.size)⟩⟩
      · have HB3 : Hid (Below w.heap.size w w3) := Lib.hid (HB1.out.trans ⟨hb3.os, hb3.tape, hb3.output, hb3.size, fun k hk => hb3.block k (Nat.lt_of_lt_of_le hk HB1.out.size)⟩)
        have HS := Lib.hid hS
        have HN := Lib.hid hN
        clear hb3 hS hN
        obtain ⟨i0, hi0, hidx⟩ := pick which ps.length hpos hsm
        obtain ⟨b, o, rfl, hx⟩ := Hp.out.cells hpos
        obtain ⟨p, hpk⟩ : ∃ p, ps[i0]? = some p := ⟨_, List.getElem?_eq_getElem hi0⟩
        obtain ⟨g1, hul, hdl, Ai, ci, g2, hbs⟩ := hx i0 p hpk
        have g1 := Cells.of_below HB3.out _ _ g1
        have g2 := Cells.of_below HB3.out _ _ g2
        have Hpk := Lib.hid hpk
        have Hbs := Lib.hid hbs
        clear hpk hbs hx
        go_wp2_with (first | (go_at_call 9; refine (num_any _ _).mono ?_; rintro e w' ⟨rfl, rfl⟩))
        have hT := pick times 20 (by omega) (by omega)
        obtain ⟨T, hT20, hTe⟩ := hT
        have hTe' : (wrap64 (times.tmod 20 + 20)).tmod 20 = (T : Int) := hTe
        clear hTe
        have hsz3 := HB3.out.size
        go_loopw [14] (fun i wr => HonRel w nb pb fb ab S p w3.heap.size (.cells #[.string p.1, .slice Ai p.2.length ci] 33 (0, 0)) i wr) (fun i _ => 30 - (intOf i).toNat)
        case atStart =>
          refine ⟨1, S, by omega, by omega, rfl, HN.out.below ((Below.refl _ _).alloc (Nat.le_refl _) _), rfl, rfl, ?_, HB3.out.trans ((Below.refl _ _).alloc hsz3 _), heap_alloc_new w3 _⟩
          unfold nth
          rw [(new_pages HS.out).2.2]
          rfl
        case round =>
          clear g1 g2
          obtain ⟨k, Sm, hk1, hk20, rfl, hNm, hpg, hft, hnk, hBr, hblk⟩ := hrel
          have Hpg := Lib.hid hpg
          have Hft := Lib.hid hft
          have Hnk := Lib.hid hnk
          have HNm := Lib.hid hNm
          have HBr := Lib.hid hBr
          have q := blk_cells hblk
          have Hblk := Lib.hid hblk
          clear hpg hft hnk hNm hBr hblk
          by_cases hkT : k ≤ T
          · have hnth : nth Sm p.1 < 4611686018427387904 := by have := Hnk.out; omega
            have hle := HNm.out.ans_le hul hnth
            obtain ⟨st, l, tk, hans⟩ : ∃ st l tk, ansOf Sm p.1 = (st, l, tk) := ⟨_, _, _, rfl⟩
            rw [hans] at hle
            have Hans := Lib.hid hans
            clear hans
            go_wp2_with fail
            refine (get_at _ nb pb fb ab Sm p.1 st l tk l.length rfl HNm.out hul hnth Hans.out).mono ?_
            rintro e w4 ⟨A4, rfl, hO4, hne4, hN4, F4⟩
            have hq4 := keepb F4 Hblk.out (by
              have := HNm.out.not_row ab (by simp)
              rintro rfl
              obtain ⟨o3, h3, t3⟩ := HNm.out.asked
              obtain ⟨es, cl, ho⟩ := t3.is_map
              have := h3.symm.trans Hblk.out
              rw [ho] at this
              cases this)
            have q4 := blk_cells hq4
            have HO4 := Lib.hid hO4
            have HN4 := Lib.hid hN4
            have HF4 := Lib.hid F4
            have Hq4 := Lib.hid hq4
            have hnab : Hid (w.heap.size ≤ ab) := Lib.hid (by have e1 : w1.heap.size ≤ ab := hn4; have e2 := HB1.out.size; omega)
            clear hO4 hne4 hN4 F4 hq4 q
            go_wp2_with fail
            generalize hx4 : w4.alloc (.cells #[.int .i64 st, .slice A4 l.length l.length, .int .i64 tk] 35) = x at *
            have ha4 : x.heap[w4.heap.size]? = some (.cells #[.int .i64 st, .slice A4 l.length l.length, .int .i64 tk] 35 (0, 0)) := by rw [← hx4]; exact heap_alloc_new w4 _
            have hB4 : Below w4.heap.size w4 x := by rw [← hx4]; exact (Below.refl _ _).alloc (Nat.le_refl _) _
            have hBx : Below w.heap.size w x := (HBr.out.trans (HF4.out.below HBr.out.size (by simp; exact hnab.out))).trans (hB4.mono (Nat.le_trans HBr.out.size HF4.out.size))
            have hq5 := (hB4.block w3.heap.size q4.2.2).trans Hq4.out
            have q5 := blk_cells hq5
            have a5 := blk_cells ha4
            have HB4 := Lib.hid hB4
            have HBx := Lib.hid hBx
            have Hq5 := Lib.hid hq5
            clear hx4 ha4 hB4 hBx hq5 q4
            go_loopw [16, 17] (fun s i wr => StrRel fs p.1 k x s i wr) (fun _ i _ => fs.length - (intOf i).toNat)
            case atStart => exact ⟨0, 0, Nat.zero_le _, rfl, rfl, rfl⟩
            case round =>
              obtain ⟨j, n, hj, rfl, rfl, rfl⟩ := hrel
              by_cases hjl : j < fs.length
              · obtain ⟨b2, o2, rfl, hx2⟩ := Hf.out.cells (by omega)
                obtain ⟨f, hfj⟩ : ∃ f, fs[j]? = some f := ⟨_, List.getElem?_eq_getElem hjl⟩
                obtain ⟨hful, hfdl, hatt, hkd, hn, Aj, cj, hfbs, g⟩ := hx2 j f hfj
                have hc := Cells.of_below HBx.out
                have g0 := hc _ _ (g 0 (by omega))
                have g1 := hc _ _ (g 1 (by omega))
                simp at g0
                have Hfj := Lib.hid hfj
                clear hfj hfbs hx2 g hc
                have Hst : Hid (strikes (fs.take (j + 1)) p.1 k = (strikes (fs.take j) p.1 k || (decide (f.u = p.1) && f.att == (k : Int)))) := Lib.hid (by
                  rw [List.take_add_one, Hfj.out]; exact strikes_snoc _ _ _ _)
                cases hs1 : strikes (fs.take j) p.1 k with
                | true =>
                  have Hs1 := Lib.hid hs1
                  clear hs1
                  go_wp2_with fail
                  go_quiet (fail)
                  go_wp2
                  go_roundw
                  case rel => exact ⟨j + 1, _, by omega, by rw [Hst.out, Hs1.out]; rfl, by go_num, rfl⟩
                  case measure => simp [intOf]; omega
                | false =>
                  have Hs1 := Lib.hid hs1
                  clear hs1
                  have hseq := str_eq f.u p.1
                  cases hs2 : decide (f.u = p.1) with
                  | false =>
                    rw [hs2] at hseq
                    have Hs2 := Lib.hid hs2
                    clear hs2
                    go_wp2_with fail
                    go_quiet (fail)
                    go_wp2
                    go_roundw
                    case rel => exact ⟨j + 1, _, by omega, by rw [Hst.out, Hs1.out, Hs2.out]; rfl, by go_num, rfl⟩
                    case measure => simp [intOf]; omega
                  | true =>
                    rw [hs2] at hseq
                    have Hs2 := Lib.hid hs2
                    clear hs2
                    cases hs3 : f.att == (k : Int)
                    all_goals
                      go_wp2_with fail
                      go_quiet (fail)
                      go_wp2
                      go_roundw
                      case rel => exact ⟨j + 1, _, by omega, by rw [Hst.out, Hs1.out, Hs2.out, hs3]; rfl, by go_num, rfl⟩
                      case measure => simp [intOf]; omega
              · have hjf : fs.take j = fs := List.take_of_length_le (by omega)
                rw [hjf]
                clear hjf
                have hB4o : Bs x A4 l.length l := by
                  rcases HO4.out with ⟨rfl, rfl⟩ | ⟨g4, rfl, hg4⟩
                  · exact Bs.none_ x
                  · exact (Row8.below (w' := x) hg4 HB4.out).bs hle
                have HB4o := Lib.hid hB4o
                have hwhole : strikes fs p.1 k = false → st = 200 ∧ l = p.2 ∧ tk = 1 := by
                  intro hno
                  have h1 : look Sm.faults (p.1, ((nth Sm p.1 + 1 : Nat) : Int)) = none := by
                    rw [Hft.out, Hnk.out]
                    refine (new_pages HS.out).2.1 p.1 k fun f hf hh => ?_
                    have : strikes fs p.1 k = true := List.any_eq_true.2 ⟨f, hf, by simp [hh.1, hh.2]⟩
                    rw [hno] at this
                    cases this
                  have h2 : look Sm.pages p.1 = some p.2 := by
                    rw [Hpg.out]
                    exact (new_pages HS.out).1 p (List.mem_of_getElem? Hpk.out)
                  have h3 := Hans.out
                  unfold ansOf ansBase at h3
                  rw [h1, h2] at h3
                  simp only [Prod.mk.injEq] at h3
                  exact ⟨h3.1.symm, h3.2.1.symm, h3.2.2.symm⟩
                have hask : nth (Sm.ask p.1) p.1 + 1 = k + 1 := by rw [nth_ask, if_pos rfl, Hnk.out]
                have Hask := Lib.hid hask
                have Hwhole := Lib.hid hwhole
                clear hB4o hwhole hask
                cases hstr : strikes fs p.1 k with
                | true =>
                  have Hstr := Lib.hid hstr
                  clear hstr
                  go_wp2_with fail
                  refine (same_any l p.2 A4 Ai _ _ _ (HB4o.out.keep (Cells.drewN _ _)) ((Hbs.out.keep (Cells.of_below HBx.out)).keep (Cells.drewN _ _))).mono ?_
                  rintro e w6 ⟨rfl, n6, rfl⟩
                  go_wp2
                  go_roundw
                  case rel => exact ⟨k + 1, Sm.ask p.1, by omega, by omega, by go_num, HN4.out.below (Fr.below_drewN HB4.out _), Hpg.out, Hft.out, Hask.out, Fr.below_drewN HBx.out _, Hq5.out⟩
                  case measure => simp [intOf]; omega
                | false =>
                  obtain ⟨rfl, rfl, rfl⟩ := Hwhole.out hstr
                  have Hstr := Lib.hid hstr
                  clear hstr
                  go_wp2_with fail
                  refine (same_any p.2 p.2 A4 Ai _ _ _ (HB4o.out.keep (Cells.drewN _ _)) ((Hbs.out.keep (Cells.of_below HBx.out)).keep (Cells.drewN _ _))).mono ?_
                  rintro e w6 ⟨he6, n6, rfl⟩
                  rw [beq_self_eq_true] at he6
                  subst he6
                  go_wp2
                  go_roundw
                  case rel => exact ⟨k + 1, Sm.ask p.1, by omega, by omega, by go_num, HN4.out.below (Fr.below_drewN HB4.out _), Hpg.out, Hft.out, Hask.out, Fr.below_drewN HBx.out _, Hq5.out⟩
                  case measure => simp [intOf]; omega
          · go_wp2
            go_ret
            exact ⟨rfl, HBr.out⟩
end Go.Proofs.Ytpblaclhfcomeaa
