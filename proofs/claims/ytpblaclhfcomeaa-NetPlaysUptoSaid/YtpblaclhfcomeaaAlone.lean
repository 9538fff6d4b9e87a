/-
  NetAlone: what a URL's requests get hangs on that URL alone: the walk.
-/
import Derived.Test.YtpblaclhfcomeaaAloneLaw
namespace Go.Proofs.Ytpblaclhfcomeaa
open Go.RowKit Go.Maps

attribute [local go_sem] lt1 lt2 lt3 lt4 lt5 lt6

/-- a slice of texts -/
structure StAt (w : World) (A : Option Addr) (cap : Nat) (l : List ByteArray) : Prop where
  sl : Sl w A cap l.length 1 (l.map Value.string)
  small : ∀ s ∈ l, s.size ≤ 1048576
theorem StAt.keep {w w' : World} {A : Option Addr} {cap : Nat} {l : List ByteArray} (h : StAt w A cap l) (hc : Cells w w') : StAt w' A cap l := ⟨h.sl.keep hc, h.small⟩
theorem StAt.at_ {w : World} {A : Option Addr} {cap : Nat} {l : List ByteArray} (h : StAt w A cap l) {i : Nat} (hi : i < l.length) :
    ∃ b o s, A = some ⟨b, o, none⟩ ∧ l[i]? = some s ∧ s.size ≤ 1048576 ∧ w.cell? ⟨b, o + i, none⟩ = some (.string s) := by
  obtain ⟨b, o, rfl, hx⟩ := h.sl.cells (by omega)
  refine ⟨b, o, l[i], rfl, List.getElem?_eq_getElem hi, h.small _ (List.getElem_mem _), ?_⟩
  rw [hx i (by omega)]
  simp [hi]

/-- both networks behind i requests, k of them u's -/
def AloneRel (w : World) (nb pb fb ab nb2 pb2 fb2 ab2 : Nat) (S : NetSt) (u : ByteArray) (len : Nat) (kv iv : Value) (wr : World) : Prop :=
  ∃ (k i : Nat) (Sn Sm : NetSt), i ≤ len ∧ k ≤ i ∧ kv = .int .i64 k ∧ iv = .int .i64 i ∧ NetAt wr nb pb fb ab 0 Sn ∧ NetAt wr nb2 pb2 fb2 ab2 0 Sm ∧ Sn.pages = S.pages ∧ Sn.faults = S.faults ∧ Sm.pages = S.pages ∧ Sm.faults = S.faults ∧
    nth Sn u = k ∧ nth Sm u = k ∧ Tidy Sn i ∧ Below w.heap.size w wr
def AlonePost (w : World) (e : Ending) (w' : World) : Prop := e = .returned (.bool true) ∧ Below w.heap.size w w'

theorem Bl.trans {w a b : World} (h : Below w.heap.size w a) (k : Below a.heap.size a b) : Below w.heap.size w b :=
  h.trans ⟨k.os, k.tape, k.output, k.size, fun i hi => k.block i (Nat.lt_of_lt_of_le hi h.size)⟩

theorem nth_le_total (S : NetSt) (u : ByteArray) : nth S u ≤ total S := by
  have aux : ∀ m : List (ByteArray × Nat), (look m u).getD 0 ≤ (m.map (·.2)).sum := by
    intro m
    induction m with
    | nil => simp [look]
    | cons p m ih =>
      rw [look]
      simp only [List.map_cons, List.sum_cons]
      split
      · simp
      · omega
  exact aux S.asked
theorem NetAt.not_row1 {w : World} {nb pb fb ab : Nat} {s : Int} {S : NetSt} (h : NetAt w nb pb fb ab s S) : ∀ k, k ∈ [ab] → ∀ l, ¬ Row8 w k l := fun k hk => h.not_row k (by simp at hk; simp [hk])
/-- the other network stays -/
theorem NetAt.apart {w w' : World} {nb pb fb ab nb2 pb2 fb2 ab2 : Nat} {S S2 : NetSt} (h : NetAt w nb pb fb ab 0 S) (h2 : NetAt w nb2 pb2 fb2 ab2 0 S2) (hd : ∀ k, k ∈ [nb, pb, fb, ab] → k ∉ [nb2, pb2, fb2, ab2]) (F : Fr [ab] w w') : NetAt w' nb2 pb2 fb2 ab2 0 S2 :=
  h2.fr F (fun k hk => hd k (by simp at hk; simp [hk])) h.not_row1
theorem Own.bs {w w' : World} {A : Option Addr} {l : List UInt8} (h : Own w A l) (hl : l.length ≤ 140737488351232) (hr : Rows8 w w') : Bs w' A l.length l := by
  rcases h with ⟨rfl, rfl⟩ | ⟨g, rfl, hg⟩
  · exact Bs.none_ _
  · exact (hr g l hg).bs hl

theorem row_sl {w : World} {base n : Nat} {t : TypeId} {v : Value} {xs : List Value} (h : w.ownsRow base t 1 v n xs) : ∃ A cap, v = .slice A n cap ∧ Sl w A cap n 1 xs := by
  obtain ⟨h1, ⟨rfl, h2⟩ | ⟨g, cap, cur, rfl, _, hg, hn, hc, hs, hx⟩⟩ := h
  · subst h2
    exact ⟨none, 0, rfl, h1, by simp, by simp, by simp, by simp⟩
  · refine ⟨_, cap, rfl, h1, by simp, hn, hc, fun _ => ⟨g, 0, rfl, fun j hj => ?_⟩⟩
    rw [← hx, List.getElem?_take_of_lt hj]
    simp [World.cell?, hg]
/-- the sum over the names, j of them taken -/
def NamesRel (x : World) (nb pb fb ab : Nat) (S : NetSt) (ss : List (List UInt8)) (tv jv : Value) (wr : World) : Prop :=
  ∃ j : Nat, j ≤ ss.length ∧ tv = .int .i64 (((ss.take j).map fun l => nth S (strB l)).sum : Nat) ∧ jv = .int .i64 j ∧ NetAt wr nb pb fb ab 0 S ∧ Fr [] x wr
theorem sum_snoc (f : List UInt8 → Nat) {ss : List (List UInt8)} {j : Nat} {l : List UInt8} (h : ss[j]? = some l) : ((ss.take (j + 1)).map f).sum = ((ss.take j).map f).sum + f l := by
  rw [List.take_add_one, h]
  simp

set_option maxHeartbeats 4000000 in
set_option maxRecDepth 100000 in
theorem alone_any (w : World) (ps : List (ByteArray × List UInt8)) (fs : List PFault) (u : ByteArray) (qs : List ByteArray) (A A2 A3 : Option Addr) (c c2 c3 : Nat) (hp : PgAt w A c ps) (hf : FtAt w A2 c2 fs) (hs : StAt w A3 c3 qs) (hu : u.size ≤ 1048576) :
    Calls Try.prog 4 #[.slice A ps.length c, .slice A2 fs.length c2, .string u, .slice A3 qs.length c3] w (AlonePost w) := by
  have Hp := Lib.hid hp
  have Hf := Lib.hid hf
  have Hs := Lib.hid hs
  have hal : qs.length ≤ 9223372036854775807 := by have h1 := hs.sl.le; have h2 := hs.sl.big; unfold maxLen at h2; omega
  have hum : u.size ≤ maxLen := by unfold maxLen; omega
  clear hp hf hs
  go_enter Try.func4, Try.ntmps4
  go_wp2_with fail
  refine (first_any _).mono ?_
  rintro e w1 ⟨rfl, hB1⟩
  have HB1 := Lib.hid hB1
  clear hB1
  go_wp2_with fail
  refine (few_any _ ps fs A A2 c c2 (Hp.out.keep (Cells.of_below HB1.out)) (Hf.out.keep (Cells.of_below HB1.out))).mono ?_
  rintro e w2 ⟨small, rfl, n1, rfl⟩
  cases small with
  | false =>
    go_wp2
    go_ret
    exact ⟨rfl, Fr.below_drewN HB1.out _⟩
  | true =>
    by_cases h0 : qs.length ≤ 200
    rotate_left
    · go_wp2
      go_ret
      exact ⟨rfl, Fr.below_drewN HB1.out _⟩
    · go_wp2_with fail
      refine (new_any _ ps fs A A2 c c2 ((Hp.out.keep (Cells.of_below HB1.out)).keep (Cells.drewN _ _)) ((Hf.out.keep (Cells.of_below HB1.out)).keep (Cells.drewN _ _))).mono ?_
      rintro e w3 ⟨hb3, hnew⟩
      have HB3 : Hid (Below w.heap.size w w3) := Lib.hid (Bl.trans (Fr.below_drewN HB1.out n1) hb3)
      rcases hnew with ⟨S, nb, pb, fb, ab, hS, rfl, hN, hn1, hn2, hn3, hn4⟩ | ⟨c0, hc, hc0, rfl⟩
      rotate_left
      · have Hc := Lib.hid hc
        have hcb : (c0 != 0) = true := by simpa using hc0
        clear hb3 hc hc0
        go_wp2_with fail
        refine (new_any _ ps fs A A2 c c2 (Hp.out.keep (Cells.of_below HB3.out)) (Hf.out.keep (Cells.of_below HB3.out))).mono ?_
        rintro e w4 ⟨hb4, ⟨S, nb, pb, fb, ab, hS, _⟩ | ⟨c1, hc1, _, rfl⟩⟩
        · rw [Hc.out] at hS; cases hS
        · have Hb4 := Lib.hid hb4
          clear hb4 hc1
          go_wp2_with (first | (go_at_call 9; refine (num_any _ _).mono ?_; rintro e w' ⟨rfl, rfl⟩))
          go_ret
          exact ⟨rfl, Bl.trans HB3.out Hb4.out⟩
      · have HS := Lib.hid hS
        have HN := Lib.hid hN
        clear hb3 hS hN
        go_wp2_with fail
        refine (new_any _ ps fs A A2 c c2 (Hp.out.keep (Cells.of_below HB3.out)) (Hf.out.keep (Cells.of_below HB3.out))).mono ?_
        rintro e w4 ⟨hb4, ⟨S', nb2, pb2, fb2, ab2, hS2, rfl, hN2, hm1, hm2, hm3, hm4⟩ | ⟨c1, hc1, _⟩⟩
        rotate_left
        · rw [HS.out] at hc1; cases hc1
        · obtain rfl : S = S' := by
            have := HS.out.symm.trans hS2
            injection this
          have HB4 : Hid (Below w.heap.size w w4) := Lib.hid (Bl.trans HB3.out hb4)
          have HN4 : Hid (NetAt w4 nb pb fb ab 0 S) := Lib.hid (HN.out.below hb4)
          have HM4 := Lib.hid hN2
          have hd2 : ∀ k, k ∈ [nb2, pb2, fb2, ab2] → w3.heap.size ≤ k := by
            intro k hk
            simp only [List.mem_cons, List.not_mem_nil, or_false] at hk
            rcases hk with rfl | rfl | rfl | rfl <;> assumption
          have hd1 : ∀ k, k ∈ [nb, pb, fb, ab] → k < w3.heap.size := HN.out.lt
          have Hd : Hid (∀ k, k ∈ [nb, pb, fb, ab] → k ∉ [nb2, pb2, fb2, ab2]) := Lib.hid (fun k h1 h2 => by have := hd1 k h1; have := hd2 k h2; omega)
          have Habw : Hid (w.heap.size ≤ ab ∧ w.heap.size ≤ ab2) := Lib.hid (by
            have e1 : w1.heap.size ≤ ab := hn4
            have e2 := HB1.out.size
            have e3 := HB3.out.size
            omega)
          clear hb4 hS2 hN2 hd1 hd2
          go_wp2_with (first | (go_at_call 9; refine (num_any _ _).mono ?_; rintro e w' ⟨rfl, rfl⟩))
          go_loopw [15, 16] (fun kv iv wr => AloneRel w nb pb fb ab nb2 pb2 fb2 ab2 S u qs.length kv iv wr) (fun _ i _ => qs.length - (intOf i).toNat)
          case atStart => exact ⟨0, 0, S, S, by omega, by omega, rfl, rfl, HN4.out, HM4.out, rfl, rfl, rfl, rfl, by unfold nth; rw [(new_pages HS.out).2.2]; rfl, by unfold nth; rw [(new_pages HS.out).2.2]; rfl, newTidy HS.out, HB4.out⟩
          case round =>
            obtain ⟨k, i, Sn, Sm, hil, hki, rfl, rfl, hNn, hNm, hp1, hf1, hp2, hf2, hn, hm, hT, hB⟩ := hrel
            have HNn := Lib.hid hNn
            have HNm := Lib.hid hNm
            have HT := Lib.hid hT
            have HB := Lib.hid hB
            have Hq : Hid (Sn.pages = S.pages ∧ Sn.faults = S.faults ∧ Sm.pages = S.pages ∧ Sm.faults = S.faults ∧ nth Sn u = k ∧ nth Sm u = k) := Lib.hid ⟨hp1, hf1, hp2, hf2, hn, hm⟩
            clear hNn hNm hp1 hf1 hp2 hf2 hn hm hT hB
            by_cases hlt : i < qs.length
            · obtain ⟨b3, o3, s, rfl, hqi, hss, hcell⟩ := (Hs.out.keep (Cells.of_below HB.out)).at_ hlt
              have hsm : s.size ≤ maxLen := by unfold maxLen; omega
              have hseq := str_eq s u
              cases hsu : decide (s = u) with
              | false =>
                rw [hsu] at hseq
                have hne : Hid (¬ u = s) := Lib.hid (fun e => by simp at hsu; exact hsu e.symm)
                clear hsu
                have hcn : nth Sn s < 4611686018427387904 := by have h1 := nth_le_total Sn s; have h2 := HT.out.sum; omega
                go_wp2_with fail
                refine (get_any _ nb pb fb ab Sn s HNn.out hsm hcn).mono ?_
                rintro e w5 ⟨A5, rfl, _, _, hN5, F5⟩
                have HN5 := Lib.hid hN5
                have HF5 := Lib.hid F5
                clear hN5 F5
                go_wp2_with fail
                go_roundw
                case rel => exact ⟨k, i + 1, Sn.ask s, Sm, by omega, by omega, rfl, by go_num, HN5.out, HNn.out.apart HNm.out Hd.out HF5.out, Hq.out.1, Hq.out.2.1, Hq.out.2.2.1, Hq.out.2.2.2.1,
                  by rw [nth_ask, if_neg hne.out]; exact Hq.out.2.2.2.2.1, Hq.out.2.2.2.2.2, HT.out.ask hss, HB.out.trans (HF5.out.below HB.out.size (by simp; exact Habw.out.1))⟩
                case measure => simp [intOf]; omega
              | true =>
                rw [hsu] at hseq
                obtain rfl : s = u := of_decide_eq_true hsu
                clear hsu
                have hcn : nth Sn s < 4611686018427387904 := by rw [Hq.out.2.2.2.2.1]; omega
                have hcm : nth Sm s < 4611686018427387904 := by rw [Hq.out.2.2.2.2.2]; omega
                have hle := HNn.out.ans_le hsm hcn
                have heq : ansOf Sm s = ansOf Sn s := by
                  obtain ⟨q1, q2, q3, q4, q5, q6⟩ := Hq.out
                  exact ansOf_eq (q3.trans q1.symm) (q4.trans q2.symm) (q6.trans q5.symm)
                obtain ⟨st, l, tk, hans⟩ : ∃ st l tk, ansOf Sn s = (st, l, tk) := ⟨_, _, _, rfl⟩
                rw [hans] at hle heq
                have Hans := Lib.hid hans
                have Heq := Lib.hid heq
                clear hans heq
                go_wp2_with fail
                refine (get_at _ nb pb fb ab Sn s st l tk l.length rfl HNn.out hsm hcn Hans.out).mono ?_
                rintro e w5 ⟨A5, rfl, hO5, hA5, hN5, F5⟩
                have HN5 := Lib.hid hN5
                have HF5 := Lib.hid F5
                have HO5 := Lib.hid hO5
                have HM5 : Hid (NetAt w5 nb2 pb2 fb2 ab2 0 Sm) := Lib.hid (HNn.out.apart HNm.out Hd.out F5)
                have HB5 : Hid (Below w.heap.size w w5) := Lib.hid (HB.out.trans (F5.below HB.out.size (by simp; exact Habw.out.1)))
                clear hN5 F5 hO5 hA5
                go_wp2_with fail
                generalize hx5 : w5.alloc (.cells #[.int .i64 st, .slice A5 l.length l.length, .int .i64 tk] 35) = x at *
                have ha5 : x.heap[w5.heap.size]? = some (.cells #[.int .i64 st, .slice A5 l.length l.length, .int .i64 tk] 35 (0, 0)) := by rw [← hx5]; exact heap_alloc_new w5 _
                have hBx : Below w5.heap.size w5 x := by rw [← hx5]; exact (Below.refl _ _).alloc (Nat.le_refl _) _
                have HBx := Lib.hid hBx
                have Hax := Lib.hid ha5
                clear hx5 ha5 hBx
                refine (get_at _ nb2 pb2 fb2 ab2 Sm s st l tk l.length rfl (HM5.out.below HBx.out) hsm hcm Heq.out).mono ?_
                rintro e w6 ⟨A6, rfl, hO6, hA6, hN6, F6⟩
                have HN6 := Lib.hid hN6
                have HF6 := Lib.hid F6
                have HO6 := Lib.hid hO6
                have h6 : w6.heap[w5.heap.size]? = some (.cells #[.int .i64 st, .slice A5 l.length l.length, .int .i64 tk] 35 (0, 0)) := keepb F6 Hax.out (by
                  have := HM5.out.lt ab2 (by simp)
                  omega)
                have HK6 : Hid (NetAt w6 nb pb fb ab 0 (Sn.ask s)) := Lib.hid ((HM5.out.below HBx.out).apart (HN5.out.below HBx.out) (fun k h1 h2 => Hd.out k h2 h1) F6)
                have HB6 : Hid (Below w.heap.size w w6) := Lib.hid ((HB5.out.trans (HBx.out.mono HB5.out.size)).trans (F6.below (Nat.le_trans HB5.out.size HBx.out.size) (by simp; exact Habw.out.2)))
                have HR6 : Hid (Rows8 w5 w6) := Lib.hid ((Rows8.of_fr (Fr.of_below HBx.out []) (by simp)).trans (Rows8.of_fr F6 (HM5.out.below HBx.out).not_row1))
                clear hN6 F6 hO6 hA6
                have c6 := blk_cells h6
                have H6 := Lib.hid h6
                clear h6
                go_wp2_with fail
                generalize hx6 : w6.alloc (.cells #[.int .i64 st, .slice A6 l.length l.length, .int .i64 tk] 35) = y at *
                have ha6 : y.heap[w6.heap.size]? = some (.cells #[.int .i64 st, .slice A6 l.length l.length, .int .i64 tk] 35 (0, 0)) := by rw [← hx6]; exact heap_alloc_new w6 _
                have hBy : Below w6.heap.size w6 y := by rw [← hx6]; exact (Below.refl _ _).alloc (Nat.le_refl _) _
                have hq5 := (hBy.block w5.heap.size c6.2.2).trans H6.out
                have qa := blk_cells hq5
                have qb := blk_cells ha6
                have HBy := Lib.hid hBy
                have HBw : Hid (Below w.heap.size w y) := Lib.hid (HB6.out.trans (hBy.mono HB6.out.size))
                have hb5 := HO5.out.bs hle (HR6.out.trans (Rows8.of_fr (Fr.of_below hBy []) (by simp)))
                have hb6 := HO6.out.bs hle (Rows8.of_fr (Fr.of_below hBy []) (by simp))
                have Hb5 := Lib.hid hb5
                have Hb6 := Lib.hid hb6
                clear hx6 ha6 hBy hq5 c6 hb5 hb6
                refine (same_any l l A5 A6 _ _ _ Hb5.out Hb6.out).mono ?_
                rintro e w7 ⟨he7, n7, rfl⟩
                rw [beq_self_eq_true] at he7
                subst he7
                have hn7 : nth (Sn.ask s) s = k + 1 := by rw [nth_ask, if_pos rfl, Hq.out.2.2.2.2.1]
                have hm7 : nth (Sm.ask s) s = k + 1 := by rw [nth_ask, if_pos rfl, Hq.out.2.2.2.2.2]
                go_wp2_with fail
                refine (asked_any _ nb pb fb ab (Sn.ask s) s (HK6.out.below (Fr.below_drewN HBy.out _)) hsm).mono ?_
                rintro e w8 ⟨he8, hN8, F8⟩
                rw [hn7] at he8
                subst he8
                have HN8 := Lib.hid hN8
                have HF8 := Lib.hid F8
                have HM8 : Hid (NetAt w8 nb2 pb2 fb2 ab2 0 (Sm.ask s)) := Lib.hid ((HN6.out.below (Fr.below_drewN HBy.out _)).fr F8 (by simp) (by simp))
                clear hN8 F8
                go_wp2_with fail
                go_roundw
                case rel => exact ⟨k + 1, i + 1, Sn.ask s, Sm.ask s, by omega, by omega, by go_num, by go_num, HN8.out, HM8.out, Hq.out.1, Hq.out.2.1, Hq.out.2.2.1, Hq.out.2.2.2.1,
                  hn7, hm7, HT.out.ask hss, (Fr.below_drewN HBw.out _).trans (HF8.out.below (Fr.below_drewN HBw.out _).size (by simp))⟩
                case measure => simp [intOf]; omega
            · have hie : i = qs.length := by omega
              go_wp2_with fail
              refine (urls_any _ nb pb fb ab Sn HNn.out (by have := HT.out.len; omega)).mono ?_
              rintro e w5 ⟨v, ss, rfl, hpm, _, hrow, hN5, F5⟩
              have Hpm := Lib.hid hpm
              have Hrow := Lib.hid hrow
              have HN5 := Lib.hid hN5
              have HB5 : Hid (Below w.heap.size w w5) := Lib.hid (HB.out.trans (F5.below HB.out.size (by simp)))
              clear hpm hrow hN5 F5
              obtain ⟨Av, cv, rfl, hsl⟩ := row_sl Hrow.out
              have Hsl := Lib.hid hsl
              have hsum := HT.out.names_sum Hpm.out
              have hle := HT.out.name_le Hpm.out
              have hlen : ss.length ≤ 200 := by
                have h1 := Hpm.out.length_eq
                have h2 := HT.out.len
                unfold names at h1
                simp at h1
                omega
              have htake := sum_take_le (fun l => nth Sn (strB l)) ss
              have Hsum := Lib.hid hsum
              have Hle := Lib.hid hle
              have Htake := Lib.hid htake
              clear hsl hsum hle htake
              go_wp2_with fail
              go_loopw [20, 22] (fun tv jv wr => NamesRel w5 nb pb fb ab Sn ss tv jv wr) (fun _ j _ => ss.length - (intOf j).toNat)
              case atStart => exact ⟨0, by omega, rfl, rfl, HN5.out, Fr.refl _ _⟩
              case round =>
                obtain ⟨j, hj, rfl, rfl, hNr, hFr⟩ := hrel
                have HNr := Lib.hid hNr
                have HFr := Lib.hid hFr
                clear hNr hFr
                have hb := Htake.out j
                rw [Hsum.out] at hb
                by_cases hjl : j < ss.length
                · obtain ⟨l, hl⟩ : ∃ l, ss[j]? = some l := ⟨_, List.getElem?_eq_getElem hjl⟩
                  have hlm : (strB l).size ≤ maxLen := Hle.out l (List.mem_of_getElem? hl)
                  obtain ⟨b4, o4, rfl, hx⟩ := (Hsl.out.keep (Cells.of_fr HFr.out (by simp))).cells (by omega)
                  have hcell : wr.cell? ⟨b4, o4 + j, none⟩ = some (.string (strB l)) := by
                    rw [hx j (by omega), List.getElem?_map, hl]; rfl
                  have hst := sum_snoc (fun l => nth Sn (strB l)) hl
                  have Hst := Lib.hid hst
                  have hb2 := Htake.out (j + 1)
                  rw [Hsum.out, hst] at hb2
                  clear hx hl hst
                  generalize hacc : ((ss.take j).map fun l => nth Sn (strB l)).sum = acc at *
                  have Hacc := Lib.hid hacc
                  clear hacc
                  go_wp2_with fail
                  refine (asked_any _ nb pb fb ab Sn (strB l) HNr.out hlm).mono ?_
                  rintro e w6 ⟨rfl, hN6, F6⟩
                  have HN6 := Lib.hid hN6
                  have HF6 := Lib.hid F6
                  clear hN6 F6
                  go_wp2_with fail
                  go_roundw
                  case rel => exact ⟨j + 1, by omega, by rw [Hst.out]; go_num, by go_num, HN6.out, HFr.out.trans HF6.out⟩
                  case measure => simp [intOf]; omega
                · have htk : ss.take j = ss := List.take_of_length_le (by omega)
                  rw [htk, Hsum.out]
                  clear htk
                  go_wp2_with fail
                  refine (total_any _ nb pb fb ab Sn HNr.out (by rw [HT.out.sum]; omega)).mono ?_
                  rintro e w6 ⟨he6, hN6, F6⟩
                  rw [HT.out.sum] at he6
                  subst he6
                  have HF6 := Lib.hid F6
                  clear hN6 F6
                  subst hie
                  go_wp2_with fail
                  go_ret
                  exact ⟨rfl, HB5.out.trans ((HFr.out.trans HF6.out).below HB5.out.size (by simp))⟩
end Go.Proofs.Ytpblaclhfcomeaa
