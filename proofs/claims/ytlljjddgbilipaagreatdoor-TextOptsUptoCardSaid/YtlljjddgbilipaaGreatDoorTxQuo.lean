/-
  quoted: a quoted word, without its first quote.
-/
import Derived.Test.YtlljjddgbilipaaGreatDoorTxEsc
import Derived.OwnWalk
import Derived.IntWalk
import Derived.Deep.RegionHeld3
namespace Go.Proofs.YtlljjddgbilipaaGreatDoor
open Go.RowKit

set_option linter.unusedSimpArgs false

attribute [local go_sem] lt1 lt2 lt3 lt4 lt5 lt6

theorem escL_len {l : List UInt8} {x : UInt8} {n : Nat} (h : escL l = some (x, n)) : 1 ≤ n ∧ n ≤ l.length := by
  cases l with
  | nil => cases h
  | cons c r =>
    rw [escL_cons] at h
    split at h
    · cases h; simp
    · unfold uniL at h
      split at h
      · split at h
        · split at h
          · rename_i heq _ _ _ _ _ _ _
            cases h
            have := congrArg List.length heq
            simp at this ⊢
            omega
          · cases h
        · cases h
      · cases h
theorem own_bs_at {w : World} {base : Nat} {A : Option Addr} {c : Nat} {l : List UInt8} (h : w.ownsRow base 5 1 (.slice A l.length c) l.length (u8s l)) : Bs w A c l := by
  obtain ⟨A', c', e, hb⟩ := own_bs h
  cases e
  exact hb
theorem mkS_extract (s : ByteArray) (a : Nat) : mkS ((toL s).drop a) = s.extract a s.size := by
  apply toL_inj
  rw [toL_mkS, toL_extract, List.take_of_length_le (by rw [List.length_drop, toL_len]; omega)]
theorem below_drewN {B : Nat} {w w' : World} (h : Below B w w') (n : Nat) : Below B w (w'.drewN n) := ⟨h.os, h.tape, h.output, h.size, h.block⟩
theorem toL_rest (s : ByteArray) (a : Nat) : toL (s.extract a s.size) = (toL s).drop a := by rw [← mkS_extract, toL_mkS]
theorem u8s_push {w : World} {base : Nat} {v : Value} {D : List UInt8} {x : UInt8} (h : w.ownsRow base 5 1 v (D.length + 1) (u8s D ++ [.int .u8 (x.toNat : Nat)])) : w.ownsRow base 5 1 v (D ++ [x]).length (u8s (D ++ [x])) := by
  rw [show (D ++ [x]).length = D.length + 1 by simp, show u8s (D ++ [x]) = u8s D ++ [.int .u8 (x.toNat : Nat)] by simp [u8s]]
  exact h
def quoV (s : ByteArray) : Value := match quotedK 0 (toL s) with
  | none => .tuple #[.string ⟨#[]⟩, .string ⟨#[]⟩, .bool false]
  | some p => .tuple #[.string (mkS p.1), .string (mkS p.2), .bool true]
def QRel (w : World) (s : ByteArray) (bv iv : Value) (wr : World) : Prop := ∃ (i : Nat) (bs : List UInt8), iv = .int .i64 i ∧ wr.ownsRow w.heap.size 5 1 bv bs.length (u8s bs) ∧ Below w.heap.size w wr ∧ i ≤ s.size ∧ bs.length ≤ i ∧
  quotedK 0 (toL s) = (quotedK 0 ((toL s).drop i)).map (fun p => (bs ++ p.1, p.2))
theorem quo_none {s : ByteArray} (h : quotedK 0 (toL s) = none) : quoV s = .tuple #[.string ⟨#[]⟩, .string ⟨#[]⟩, .bool false] := by unfold quoV; rw [h]
theorem quo_some {s : ByteArray} {p : List UInt8 × List UInt8} (h : quotedK 0 (toL s) = some p) : quoV s = .tuple #[.string (mkS p.1), .string (mkS p.2), .bool true] := by unfold quoV; rw [h]
set_option maxRecDepth 100000 in
set_option maxHeartbeats 2000000 in
theorem quoted_any (w : World) (s : ByteArray) (hl : s.size ≤ 1048576) :
    Calls Tryz.prog 31 #[.string s] w fun e w' => e = .returned (quoV s) ∧ Below w.heap.size w w' := by
  obtain ⟨i0, hi0, hz0, hz1, hz2⟩ := info_parts infoU8
  go_enter Tryz.func31, Tryz.ntmps31
  go_wp2_with fail
  go_loopw [5, 6] (fun bv iv wr => QRel w s bv iv wr) (fun _ iv _ => s.size - (intOf iv).toNat)
  case atStart => exact ⟨0, [], rfl, World.ownsRow_nil _ _ _ _, Below.refl _ _, by omega, by simp, by simp⟩
  case round =>
    obtain ⟨i, bs, rfl, hown, hB, hi, hbl, hq⟩ := hrel
    have Hown := Lib.hid hown
    have HB := Lib.hid hB
    have Hq := Lib.hid hq
    have hsz := hB.size
    obtain ⟨Av, cv, rfl, _, _, _, _⟩ := own_form hown
    clear hown hB hq
    have hir : (0 : Int) ≤ i := by omega
    by_cases hlt : i < s.size
    case neg =>
      have hIl : ¬ (i : Int) < s.size := by omega
      have Hnone : Hid (quoV s = .tuple #[.string ⟨#[]⟩, .string ⟨#[]⟩, .bool false]) := Lib.hid (quo_none (by
        rw [Hq.out, List.drop_eq_nil_of_le (by rw [toL_len]; omega)]; rfl))
      go_wp2_with fail
      go_ret3
      exact ⟨by rw [Hnone.out]; rfl, HB.out⟩
    have hIl : (i : Int) < s.size := by omega
    have hb := str_byte hlt
    have hd := drop_getD (L := toL s) (i := i) (by rw [toL_len]; omega)
    obtain ⟨c, hc⟩ : ∃ c, c = (toL s).getD i 0 := ⟨_, rfl⟩
    rw [← hc] at hb hd
    have Hd := Lib.hid hd
    clear hc hd
    go_wp2_with fail
    refine (odd_any c _).mono ?_
    rintro e w1 ⟨rfl, rfl⟩
    cases ho : oddB c with
    | true =>
      have Hnone : Hid (quoV s = .tuple #[.string ⟨#[]⟩, .string ⟨#[]⟩, .bool false]) := Lib.hid (quo_none (by
        rw [Hq.out, Hd.out, quotedK, if_pos ho]; rfl))
      clear ho
      go_wp2_with fail
      go_ret3
      exact ⟨by rw [Hnone.out]; rfl, HB.out⟩
    | false =>
      by_cases h34 : c = 34
      · subst h34
        have Hsome : Hid (quoV s = .tuple #[.string (mkS bs), .string (s.extract (i + 1) s.size), .bool true]) := Lib.hid (by
          rw [← mkS_extract s (i + 1)]
          refine quo_some (p := (bs, _)) ?_
          rw [Hq.out, Hd.out, quotedK, if_neg (by rw [ho]; decide), if_pos rfl, Option.map_some, List.append_nil])
        clear ho
        have hcvA : ∀ w', Cells wr w' → (convert 30 9 (.slice Av bs.length cv)).run Tryz.prog w' = .ok (.string ⟨bs.toArray⟩) w' := fun w' hc => str_of_bs ((own_bs_at Hown.out).keep hc)
        have hi1 : (i : Int) + 1 ≤ s.size := by omega
        have hi2 : ((i : Int) + 1).toNat = i + 1 := by omega
        have hi3 : IntKind.i64.wrap ((i : Int) + 1) = (i : Int) + 1 := IntWalk.i64_in _ (by omega)
        have hi4 : (0 : Int) ≤ (i : Int) + 1 := by omega
        go_wp2_with fail
        go_region_held3 (fun w' => (convert 30 9 (.slice Av bs.length cv)).run Tryz.prog w' = .ok (.string ⟨bs.toArray⟩) w')
          (exact hcvA _ (fun _ _ h => h))
          (first | fail)
        all_goals
          clear hcvA
          go_wp2_with fail
          go_ret3
          exact ⟨by rw [Hsome.out]; rfl, below_drewN HB.out _⟩
      · have n34 : ((c.toNat : Int) == 34) = false := by rw [beq_eq_false_iff_ne]; intro h; exact h34 (UInt8.toNat_inj.1 (by show c.toNat = 34; omega))
        by_cases h92 : c = 92
        · subst h92
          have hi1 : (i : Int) + 1 ≤ s.size := by omega
          have hi2 : ((i : Int) + 1).toNat = i + 1 := by omega
          have hesc : escV (s.extract (i + 1) s.size) = match escL ((toL s).drop (i + 1)) with
            | none => .tuple #[.int .u8 0, .int .i64 0]
            | some (c, n) => .tuple #[.int .u8 (c.toNat : Nat), .int .i64 (n : Nat)] := by
            unfold escV
            rw [toL_rest]
            rfl
          cases he : escL ((toL s).drop (i + 1)) with
          | none =>
            rw [he] at hesc
            have Hnone : Hid (quoV s = .tuple #[.string ⟨#[]⟩, .string ⟨#[]⟩, .bool false]) := Lib.hid (quo_none (by
              rw [Hq.out, Hd.out, quotedK, if_neg (by rw [ho]; decide), if_neg h34, if_pos rfl, he]; rfl))
            clear ho h34 he
            go_wp2_with fail
            refine (escaped_any _ (s.extract (i + 1) s.size) ?hz).mono ?_
            case hz => rw [← toL_len, toL_rest]; simp [toL_len]; omega
            rintro e w1 ⟨rfl, nn, rfl⟩
            rw [hesc]
            clear hesc
            go_wp2_with fail
            go_ret3
            exact ⟨by rw [Hnone.out]; rfl, below_drewN HB.out _⟩
          | some xn =>
            obtain ⟨x, n⟩ := xn
            rw [he] at hesc
            obtain ⟨hn1, hn2⟩ := escL_len he
            rw [List.length_drop, toL_len] at hn2
            have Hstep : Hid (quotedK 0 (toL s) = (quotedK 0 ((toL s).drop (i + n + 1))).map (fun p => (bs ++ [x] ++ p.1, p.2))) := Lib.hid (by
              rw [Hq.out, Hd.out, quotedK, if_neg (by rw [ho]; decide), if_neg h34, if_pos rfl, he]
              simp only
              rw [quotedK_drop, List.drop_drop, show i + 1 + n = i + n + 1 by omega]
              cases quotedK 0 ((toL s).drop (i + n + 1)) <;> simp)
            clear ho h34 he
            have hn0 : ((n : Int) == 0) = false := by rw [beq_eq_false_iff_ne]; omega
            go_wp2_with fail
            refine (escaped_any _ (s.extract (i + 1) s.size) ?hz).mono ?_
            case hz => rw [← toL_len, toL_rest]; simp [toL_len]; omega
            rintro e w1 ⟨rfl, nn, rfl⟩
            rw [hesc]
            clear hesc
            have HBn := Lib.hid (below_drewN HB.out nn)
            have Hownn : Hid ((wr.drewN nn).ownsRow w.heap.size 5 1 (.slice Av bs.length cv) bs.length (u8s bs)) := Lib.hid (own_keep Hown.out fun _ _ h => h)
            have hszn : w.heap.size ≤ (wr.drewN nn).heap.size := hsz
            generalize wr.drewN nn = wn at *
            have hn0' : 0 < (n : Int) := by omega
            go_wp2_with (first | (at_builtin; refine wpList_append_own _ rfl _ _ 30 rfl w.heap.size 5 i0 (.int .u8 0) 1 1 Tryz.underlying30 hi0 hz0 hz1 hz2 rfl (by omega) (.slice Av bs.length cv) bs.length (u8s bs) rfl (Hownn.out.alloc _) ⟨wn.heap.size, 0, none⟩ 1 1 [.int .u8 (x.toNat : Nat)] rfl rfl (fun j v hv => World.news_of_block (w := wn.alloc _) (heap_alloc_new wn _) j v hv) (one_cell _) (by unfold maxLen; omega) (by omega) (by simp; omega) ?_))
            intro v1 wp hown1 hgrow1 _
            have Hfin : Hid (QRel w s v1 (.int .i64 ((i : Int) + n + 1)) wp) := Lib.hid ⟨i + n + 1, bs ++ [x], rfl, u8s_push hown1, (HBn.out.alloc hszn _).grown hgrow1 (by simp; omega) (fun k hk => (own_blk Hownn.out k hk).1), by omega, by simp; omega, Hstep.out⟩
            obtain ⟨Av1, cv1, rfl, _, _, _, _⟩ := own_form hown1
            clear hown1 hgrow1
            go_wp2_with fail
            exact ⟨Hfin.out, by simp [intOf]; omega⟩
        · have n92 : ((c.toNat : Int) == 92) = false := by rw [beq_eq_false_iff_ne]; intro h; exact h92 (UInt8.toNat_inj.1 (by show c.toNat = 92; omega))
          have Hstep : Hid (quotedK 0 (toL s) = (quotedK 0 ((toL s).drop (i + 1))).map (fun p => (bs ++ [c] ++ p.1, p.2))) := Lib.hid (by
            rw [Hq.out, Hd.out, quotedK, if_neg (by rw [ho]; decide), if_neg h34, if_neg h92]
            cases quotedK 0 ((toL s).drop (i + 1)) <;> simp)
          clear ho h34 h92
          go_wp2_with (first | (at_builtin; refine wpList_append_own _ rfl _ _ 30 rfl w.heap.size 5 i0 (.int .u8 0) 1 1 Tryz.underlying30 hi0 hz0 hz1 hz2 rfl (by omega) (.slice Av bs.length cv) bs.length (u8s bs) rfl (Hown.out.alloc _) ⟨wr.heap.size, 0, none⟩ 1 1 [.int .u8 (c.toNat : Nat)] rfl rfl (fun j v hv => World.news_of_block (w := wr.alloc _) (heap_alloc_new wr _) j v hv) (one_cell _) (by unfold maxLen; omega) (by omega) (by simp; omega) ?_))
          intro v1 wp hown1 hgrow1 _
          have Hfin : Hid (QRel w s v1 (.int .i64 ((i : Int) + 1)) wp) := Lib.hid ⟨i + 1, bs ++ [c], rfl, u8s_push hown1, (HB.out.alloc hsz _).grown hgrow1 (by simp; omega) (fun k hk => (own_blk Hown.out k hk).1), by omega, by simp; omega, Hstep.out⟩
          obtain ⟨Av1, cv1, rfl, _, _, _, _⟩ := own_form hown1
          clear hown1 hgrow1
          go_wp2_with fail
          exact ⟨Hfin.out, by simp [intOf]; omega⟩
end Go.Proofs.YtlljjddgbilipaaGreatDoor
