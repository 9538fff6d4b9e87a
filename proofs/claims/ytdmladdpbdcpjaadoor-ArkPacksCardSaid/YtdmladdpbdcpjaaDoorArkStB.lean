/-
  A row of files in memory, its places exchanged; swapRange. (Printed by wip/abexp.py.)
  rotate: two neighbouring ranges of a row exchanged. (Printed by wip/abexp.py.)
  The comparison; the insertion sort of a part of a row. (Printed by wip/abexp.py.)
  The merge where the front half is one file. (Printed by wip/abexp.py.)
  The merge where the back half is one file. (Printed by wip/abexp.py.)
  The merge of two sorted neighbours of a row. (Printed by wip/gensym5.py and wip/abexp.py.)
  The stable sort of a row of files; files by their names, the package's. (Printed by wip/abexp.py.)
  Files by their names, the package's: any files with unlike names. (Printed by wip/abexp.py.)
-/
import Derived.Test.YtdmladdpbdcpjaaDoorArkRise
import Derived.Test.YtdmladdpbdcpjaaDoorArkAbs
import Derived.Test.YtdmladdpbdcpjaaDoorSortLaw
import Derived.Test.YtdmladdpbdcpjaaDoorArkOrd
import Derived.Test.YtdmladdpbdcpjaaDoorShelf
namespace Go.Proofs.YtdmladdpbdcpjaaDoor
open Go.RowKit

set_option linter.unusedSimpArgs false

attribute [local go_sem] lt1 lt2 lt3 lt4 lt5 lt6

/-- a file's cells: its name, its slice of bytes -/
structure FlR where
  nm : ByteArray
  ad : Option Addr
  n : Nat
  c : Nat
def FlR.sl (x : FlR) : Value := .slice x.ad x.n x.c
/-- a block that holds N files -/
def Rw (w : World) (g N : Nat) (f : Nat → FlR) : Prop :=
  ∃ cur : Array Value, w.heap[g]? = some (.cells cur 46 (0, 0)) ∧ cur.size = N * 2 ∧ ∀ i, i < N → cur[i * 2]? = some (.string (f i).nm) ∧ cur[i * 2 + 1]? = some (f i).sl
theorem Rw.at_ {w : World} {g N : Nat} {f : Nat → FlR} (h : Rw w g N f) {i : Nat} (hi : i < N) : w.cell? ⟨g, i * 2, none⟩ = some (.string (f i).nm) ∧ w.cell? ⟨g, i * 2 + 1, none⟩ = some (f i).sl := by
  obtain ⟨cur, h1, h2, h3⟩ := h
  exact ⟨((blk_cells h1).1 _).trans (h3 i hi).1, ((blk_cells h1).1 _).trans (h3 i hi).2⟩
theorem Rw.keep {w w' : World} {g N : Nat} {f : Nat → FlR} (h : Rw w g N f) (hg : w'.heap[g]? = w.heap[g]?) : Rw w' g N f := by
  obtain ⟨cur, h1, h2⟩ := h
  exact ⟨cur, hg.trans h1, h2⟩
theorem Rw.free {w : World} {g N : Nat} {f : Nat → FlR} (h : Rw w g N f) (o : Nat) : w.frozen? ⟨g, o, none⟩ = false := by
  obtain ⟨cur, h1, _⟩ := h
  exact (blk_cells h1).2.1 o
theorem Rw.congr {w : World} {g N : Nat} {f f' : Nat → FlR} (h : Rw w g N f) (hf : ∀ i, i < N → f' i = f i) : Rw w g N f' := by
  obtain ⟨cur, h1, h2, h3⟩ := h
  exact ⟨cur, h1, h2, fun i hi => by rw [hf i hi]; exact h3 i hi⟩
/-- a place written -/
def upd (f : Nat → FlR) (i : Nat) (x : FlR) : Nat → FlR := fun k => if k = i then x else f k
theorem Rw.put {w : World} {g N : Nat} {f : Nat → FlR} (h : Rw w g N f) {i : Nat} (hi : i < N) (x : FlR) :
    Rw ((w.setCell ⟨g, i * 2, none⟩ (.string x.nm)).setCell ⟨g, i * 2 + 1, none⟩ x.sl) g N (upd f i x) := by
  obtain ⟨cur, h1, h2, h3⟩ := h
  refine ⟨_, heap_setCell_at (heap_setCell_at h1 _ _) _ _, by simp [h2], fun k hk => ?_⟩
  unfold upd
  by_cases e : k = i
  · subst e
    rw [if_pos rfl]
    constructor
    · rw [Array.getElem?_setIfInBounds_ne (by omega), Array.getElem?_setIfInBounds_self_of_lt (by omega)]
    · rw [Array.getElem?_setIfInBounds_self_of_lt (by simp; omega)]
  · rw [if_neg e]
    constructor
    · rw [Array.getElem?_setIfInBounds_ne (by omega), Array.getElem?_setIfInBounds_ne (by omega)]
      exact (h3 k hk).1
    · rw [Array.getElem?_setIfInBounds_ne (by omega), Array.getElem?_setIfInBounds_ne (by omega)]
      exact (h3 k hk).2
theorem upd_swp (f : Nat → FlR) {i j : Nat} : upd (upd f i (f j)) j (f i) = swp f i j := by
  funext k
  unfold upd swp
  by_cases h1 : k = j
  · by_cases h2 : k = i
    · rw [if_pos h1, if_pos h2]; congr 1; omega
    · rw [if_pos h1, if_neg h2, if_pos h1]
  · by_cases h2 : k = i
    · rw [if_neg h1, if_pos h2, if_pos h2]
    · rw [if_neg h1, if_neg h2, if_neg h2, if_neg h1]
def SwPost (w : World) (g N : Nat) (f : Nat → FlR) (e : Ending) (w' : World) : Prop := e = .returned (.tuple #[]) ∧ Rw w' g N f ∧ Fr [g] w w'
def SwRel (w : World) (g N p q n : Nat) (f : Nat → FlR) (iv : Value) (wr : World) : Prop := ∃ i : Nat, i ≤ n ∧ iv = .int .i64 i ∧ Rw wr g N (swr f p q i) ∧ Fr [g] w wr
set_option maxHeartbeats 2000000 in
set_option maxRecDepth 100000 in
theorem swap_any (w : World) (g N p q n : Nat) (f : Nat → FlR) (F : Value) (hr : Rw w g N f) (hN : N ≤ 1048576) (h1 : p + n ≤ q) (h2 : q + n ≤ N) :
    Calls Tryd.prog 122 #[.slice (some ⟨g, 0, none⟩) N N, .int .i64 (p : Nat), .int .i64 (q : Nat), .int .i64 (n : Nat), F] w (SwPost w g N (swr f p q n)) := by
  have H0 : Hid (SwRel w g N p q n f (.int .i64 0) w) := Lib.hid ⟨0, by omega, rfl, by rw [swr_zero]; exact hr, Fr.refl _ _⟩
  clear hr
  go_enter Tryd.func122, Tryd.ntmps122
  go_wp2_with fail
  go_loopw [10] (fun iv wr => SwRel w g N p q n f iv wr) (fun iv _ => n - (intOf iv).toNat)
  case atStart => exact H0.out
  case round =>
    clear H0
    obtain ⟨i, hi, rfl, hr, hf⟩ := hrel
    have hir : (0 : Int) ≤ i := by omega
    by_cases hlt : i < n
    · have hlI : (i : Int) < n := by omega
      obtain ⟨c1, c2⟩ := hr.at_ (i := p + i) (by omega)
      obtain ⟨d1, d2⟩ := hr.at_ (i := q + i) (by omega)
      have k1 := IntWalk.i64_in ((p : Int) + i) (by omega)
      have k2 := IntWalk.i64_in ((q : Int) + i) (by omega)
      have b1 : (0 : Int) ≤ (p : Int) + i := by omega
      have b2 : (p : Int) + i < N := by omega
      have b3 : (0 : Int) ≤ (q : Int) + i := by omega
      have b4 : (q : Int) + i < N := by omega
      have t1 : ((p : Int) + i).toNat = p + i := by omega
      have t2 : ((q : Int) + i).toNat = q + i := by omega
      obtain ⟨x, hx⟩ : ∃ x, x = swr f p q i (p + i) := ⟨_, rfl⟩
      obtain ⟨y, hy⟩ : ∃ y, y = swr f p q i (q + i) := ⟨_, rfl⟩
      rw [← hx] at c1 c2
      rw [← hy] at d1 d2
      have fz : ∀ o, wr.frozen? ⟨g, o, none⟩ = false := hr.free
      obtain ⟨x1, x2, x3, x4⟩ := x
      obtain ⟨y1, y2, y3, y4⟩ := y
      simp only [FlR.sl] at c1 c2 d1 d2
      have Hx := Lib.hid hx
      have Hy := Lib.hid hy
      have Hr := Lib.hid hr
      have Hf := Lib.hid hf
      have C1 := Lib.hid c1
      have C2 := Lib.hid c2
      have D1 := Lib.hid d1
      have D2 := Lib.hid d2
      clear hx hy hr hf c1 c2 d1 d2
      go_wp2_with fail
      with_reducible refine g_mixx [(0, 0), (1, 0), (2, 0), (3, 0), (4, 1), (5, 1), (6, 1), (7, 1), (8, 0), (9, 0), (10, 0), (11, 0), (12, 0), (13, 0), (14, 0), (15, 0), (16, 0), (17, 0), (18, 0), (19, 0), (20, 0), (21, 3), (22, 1), (23, 3)] (fun w' => (w'.cell? ⟨g, (p + i) * 2, none⟩ = some (.string x1) ∧ w'.cell? ⟨g, (p + i) * 2 + 1, none⟩ = some (.slice x2 x3 x4)) ∧ w'.cell? ⟨g, (q + i) * 2, none⟩ = some (.string y1) ∧ w'.cell? ⟨g, (q + i) * 2 + 1, none⟩ = some (.slice y2 y3 y4)) 0 _ rfl (by kernel_rfl) (by kernel_rfl) ?_ ?_
      · exact ⟨⟨C1.out, C2.out⟩, D1.out, D2.out⟩
      intro OPS HD
      simp only [mixX, nthO, consX]
      iterate 4 ((with_reducible refine x_val (v := ?_) ?_ ?_ ?_); rotate_left; (rintro _ _; (try simp only [k1, k2]); go_simp; first | done | rfl | (constructor <;> rfl)); exact ⟨⟨C1.out, C2.out⟩, D1.out, D2.out⟩)
      iterate 4 ((with_reducible refine x_any (v := ?_) ?_ ?_); rotate_left; (rintro _; (try simp only [k1, k2]); go_simp; first | done | rfl | (constructor <;> rfl)))
      iterate 13 ((with_reducible refine x_val (v := ?_) ?_ ?_ ?_); rotate_left; (rintro _ ⟨⟨c1, c2⟩, d1, d2⟩; (try simp only [k1, k2]); go_simp; first | done | rfl | (constructor <;> rfl)); exact ⟨⟨C1.out, C2.out⟩, D1.out, D2.out⟩)
      have hr1 : Rw ((wr.drew.setCell ⟨g, (p + i) * 2, none⟩ (.string y1)).setCell ⟨g, (p + i) * 2 + 1, none⟩ (.slice y2 y3 y4)) g N (upd (swr f p q i) (p + i) ⟨y1, y2, y3, y4⟩) := Rw.put (w := wr.drew) (Hr.out.keep rfl) (by omega) ⟨y1, y2, y3, y4⟩
      with_reducible refine x_three ?_
      with_reducible refine l_skip (w' := (wr.drew.setCell ⟨g, (p + i) * 2, none⟩ (.string y1)).setCell ⟨g, (p + i) * 2 + 1, none⟩ (.slice y2 y3 y4)) ?_ ?_
      · have c1 := C1.out
        have c2 := C2.out
        go_simp
      have fz1 := hr1.free
      have hr2 := Rw.put hr1 (i := q + i) (by omega) ⟨x1, x2, x3, x4⟩
      obtain ⟨e1, e2⟩ := hr1.at_ (i := q + i) (by omega)
      refine x_last ?_
      iterate 1 ((with_reducible refine x_any (v := ?_) ?_ ?_); rotate_left; (rintro _; (try simp only [k1, k2]); go_simp; first | done | rfl | (constructor <;> rfl)))
      have Hw1 : Hid (Fr [g] wr ((wr.drew.setCell ⟨g, (p + i) * 2, none⟩ (.string y1)).setCell ⟨g, (p + i) * 2 + 1, none⟩ (.slice y2 y3 y4))) := Lib.hid (((Fr.refl [g] wr).drewN 1).trans ((Fr.setCell [g] _ _ _ (by simp)).trans (Fr.setCell [g] _ _ _ (by simp))))
      generalize (wr.drew.setCell ⟨g, (p + i) * 2, none⟩ (.string y1)).setCell ⟨g, (p + i) * 2 + 1, none⟩ (.slice y2 y3 y4) = w1 at *
      with_reducible refine x_three ?_
      with_reducible refine l_skip (w' := (w1.setCell ⟨g, (q + i) * 2, none⟩ (.string x1)).setCell ⟨g, (q + i) * 2 + 1, none⟩ (.slice x2 x3 x4)) ?_ ?_
      · go_simp
      have Hfin : Hid (SwRel w g N p q n f (.int .i64 ((i : Int) + 1)) ((w1.setCell ⟨g, (q + i) * 2, none⟩ (.string x1)).setCell ⟨g, (q + i) * 2 + 1, none⟩ (.slice x2 x3 x4))) := Lib.hid ⟨i + 1, by omega, by simp, by
        refine hr2.congr fun k hk => ?_
        rw [← swr_succ f (by omega : p + i < q), ← upd_swp, ← Hx.out, ← Hy.out], Hf.out.trans (Hw1.out.trans ((Fr.setCell [g] w1 _ _ (by simp)).trans (Fr.setCell [g] _ _ _ (by simp))))⟩
      refine x_last ?_
      with_reducible refine x_end ?_
      clear hr1 hr2 fz1 e1 e2 k1 k2 b1 b2 b3 b4 t1 t2 fz
      simp only [Act.put, List.setIfInBounds_toArray, List.set_cons_zero, List.set_cons_succ]
      go_wp2_with fail
      go_roundw
      case rel => exact Hfin.out
      case measure => simp [intOf]; omega
    · obtain rfl : i = n := by omega
      have Hr := Lib.hid hr
      have Hf := Lib.hid hf
      clear hr hf
      go_wp2_with fail
      go_end0
      exact ⟨rfl, Hr.out, Hf.out⟩
end Go.Proofs.YtdmladdpbdcpjaaDoor
namespace Go.Proofs.YtdmladdpbdcpjaaDoor
open Go.RowKit

set_option linter.unusedSimpArgs false

attribute [local go_sem] lt1 lt2 lt3 lt4 lt5 lt6

theorem swap_at (w : World) (g N p q n : Nat) (f : Nat → FlR) (F : Value) {pI qI nI : Int} (ep : pI = p) (eq : qI = q) (en : nI = n) (hr : Rw w g N f) (hN : N ≤ 1048576) (h1 : p + n ≤ q) (h2 : q + n ≤ N) :
    Calls Tryd.prog 122 #[.slice (some ⟨g, 0, none⟩) N N, .int .i64 pI, .int .i64 qI, .int .i64 nI, F] w (SwPost w g N (swr f p q n)) := by
  subst ep eq en
  exact swap_any w g N p q n f F hr hN h1 h2
def RtRel (w : World) (g N a m b : Nat) (f : Nat → FlR) (iv jv : Value) (wr : World) : Prop :=
  ∃ (i j : Nat) (cur : Nat → FlR), 0 < i ∧ 0 < j ∧ i ≤ m ∧ m + j ≤ N ∧ iv = .int .i64 i ∧ jv = .int .i64 j ∧ Rw wr g N cur ∧ rot cur (m - i) m (m + j) = rot f a m b ∧ Fr [g] w wr
set_option maxHeartbeats 2000000 in
set_option maxRecDepth 100000 in
theorem rotate_any (w : World) (g N a m b : Nat) (f : Nat → FlR) (F : Value) (hr : Rw w g N f) (hN : N ≤ 1048576) (h1 : a < m) (h2 : m < b) (h3 : b ≤ N) :
    Calls Tryd.prog 116 #[.slice (some ⟨g, 0, none⟩) N N, .int .i64 (a : Nat), .int .i64 (m : Nat), .int .i64 (b : Nat), F] w (SwPost w g N (rot f a m b)) := by
  have H0 : Hid (RtRel w g N a m b f (.int .i64 ((m : Int) - a)) (.int .i64 ((b : Int) - m)) w) := Lib.hid ⟨m - a, b - m, f, by omega, by omega, by omega, by omega, by rw [Int.ofNat_sub (by omega)], by rw [Int.ofNat_sub (by omega)], hr, by rw [show m - (m - a) = a by omega, show m + (b - m) = b by omega], Fr.refl _ _⟩
  clear hr
  have k1 := IntWalk.i64_in ((m : Int) - a) (by omega)
  have k2 := IntWalk.i64_in ((b : Int) - m) (by omega)
  go_enter Tryd.func116, Tryd.ntmps116
  go_wp2_with fail
  go_loopw [10, 11] (fun iv jv wr => RtRel w g N a m b f iv jv wr) (fun iv jv _ => (intOf iv).toNat + (intOf jv).toNat)
  case atStart => exact H0.out
  case round =>
    clear H0 k1 k2
    obtain ⟨i, j, cur, hi0, hj0, hi, hj, rfl, rfl, hr, hc, hf⟩ := hrel
    have Hr := Lib.hid hr
    have Hf := Lib.hid hf
    have Hc := Lib.hid hc
    clear hr hf hc
    have k1 := IntWalk.i64_in ((m : Int) - i) (by omega)
    by_cases he : i = j
    · subst he
      go_wp2_with fail
      refine (swap_at _ g N (m - i) m i cur _ (by omega) rfl rfl Hr.out hN (by omega) (by omega)).mono ?_
      rintro e w1 ⟨rfl, h4, h5⟩
      have H4 := Lib.hid (And.intro h4 (Hf.out.trans h5))
      clear h4 h5
      go_wp2_with fail
      go_end0
      refine ⟨rfl, ?_, H4.out.2⟩
      rw [← Hc.out, ← rot_even cur hi]
      exact H4.out.1
    · have hb : ((i : Int) != j) = true := by rw [bne_iff_ne]; omega
      have He := Lib.hid he
      clear he
      by_cases hlt : j < i
      · have hI : (j : Int) < i := by omega
        have k2 := IntWalk.i64_in ((i : Int) - j) (by omega)
        go_wp2_with fail
        refine (swap_at _ g N (m - i) m j cur _ (by omega) rfl rfl Hr.out hN (by omega) (by omega)).mono ?_
        rintro e w1 ⟨rfl, h4, h5⟩
        have Hfin : Hid (RtRel w g N a m b f (.int .i64 ((i : Int) - j)) (.int .i64 j) w1) := Lib.hid ⟨i - j, j, swr cur (m - i) m j, by omega, by omega, by omega, by omega, by rw [Int.ofNat_sub (by omega)], rfl, h4, by rw [rot_front cur hi hlt]; exact Hc.out, Hf.out.trans h5⟩
        clear h4 h5
        go_wp2_with fail
        go_roundw
        case rel => exact Hfin.out
        case measure => simp [intOf]; omega
      · have hI : ¬ (j : Int) < i := by omega
        have hij : i < j := by have := He.out; omega
        have k2 := IntWalk.i64_in ((j : Int) - i) (by omega)
        have k3 := IntWalk.i64_in ((m : Int) + j) (by omega)
        have k4 := IntWalk.i64_in ((m : Int) + j - i) (by omega)
        go_wp2_with fail
        refine (swap_at _ g N (m - i) (m + j - i) i cur _ (by omega) (by omega) rfl Hr.out hN (by omega) (by omega)).mono ?_
        rintro e w1 ⟨rfl, h4, h5⟩
        have Hfin : Hid (RtRel w g N a m b f (.int .i64 i) (.int .i64 ((j : Int) - i)) w1) := Lib.hid ⟨i, j - i, swr cur (m - i) (m + j - i) i, by omega, by omega, by omega, by omega, rfl, by rw [Int.ofNat_sub (by omega)], h4, by rw [rot_back cur hi hij]; exact Hc.out, Hf.out.trans h5⟩
        clear h4 h5
        go_wp2_with fail
        go_roundw
        case rel => exact Hfin.out
        case measure => simp [intOf]; omega
end Go.Proofs.YtdmladdpbdcpjaaDoor
namespace Go.Proofs.YtdmladdpbdcpjaaDoor
open Go.RowKit

set_option linter.unusedSimpArgs false

attribute [local go_sem] lt1 lt2 lt3 lt4 lt5 lt6

def CmpV : Value := .func (.func 74) #[] #[]
theorem cmp_any (w : World) (a b : ByteArray) (x1 x2 : Option Addr) (n1 n2 c1 c2 : Nat) :
    Calls Tryd.prog 74 #[.agg #[.string a, .slice x1 n1 c1], .agg #[.string b, .slice x2 n2 c2]] w fun e w' => e = .returned (.int .i64 (Lib.compareBytes a.data.toList b.data.toList)) ∧ Below w.heap.size w w' := by
  go_enter Tryd.func74, Tryd.ntmps74
  go_wp2_with fail
  refine (Tryd.strings_Compare _ _ _).mono ?_
  rintro e w1 ⟨rfl, rfl⟩
  go_wp2_with fail
  go_ret
  exact ⟨rfl, (((Below.refl w.heap.size w).alloc (Nat.le_refl _) _).alloc (by simp) _)⟩
/-- the order of files in memory -/
def ltR (x y : FlR) : Bool := bl x.nm.toList y.nm.toList
theorem ordR : Ordr ltR := ⟨fun _ _ h => bl_asym _ _ h, fun _ _ _ h k => bl_ntrans _ _ _ h k⟩
theorem ltR_cmp (x y : FlR) : ltR x y = decide (Lib.compareBytes x.nm.data.toList y.nm.data.toList < 0) := by
  unfold ltR
  rw [cmp_bl, Lib.toList_data, Lib.toList_data]
/-- the comparison as the walk takes it: the answer's sign is the order -/
theorem cmp_at (w : World) (x y : FlR) : Calls Tryd.prog 74 #[.agg #[.string x.nm, .slice x.ad x.n x.c], .agg #[.string y.nm, .slice y.ad y.n y.c]] w
    fun e w' => (∃ k : Int, e = .returned (.int .i64 k) ∧ ltR x y = decide (k < 0)) ∧ Below w.heap.size w w' :=
  (cmp_any w x.nm y.nm x.ad y.ad x.n y.n x.c y.c).mono fun _ _ ⟨h1, h2⟩ => ⟨⟨_, h1, ltR_cmp x y⟩, h2⟩
/-- what sorting a part of a row leaves -/
def SrPost (w : World) (g N a b : Nat) (f : Nat → FlR) (e : Ending) (w' : World) : Prop :=
  e = .returned (.tuple #[]) ∧ ∃ f', Mv a b f f' ∧ Srt ltR a b f' ∧ Rw w' g N f' ∧ Fr [g] w w'
def IjRel (w : World) (g N a b i : Nat) (f : Nat → FlR) (jv : Value) (wr : World) : Prop :=
  ∃ (j : Nat) (f' : Nat → FlR), a ≤ j ∧ j ≤ i ∧ jv = .int .i64 j ∧ Mv a b f f' ∧ Ins ltR a i j f' ∧ Rw wr g N f' ∧ Fr [g] w wr
def OutRel (w : World) (g N a b : Nat) (f : Nat → FlR) (iv : Value) (wr : World) : Prop :=
  ∃ (i : Nat) (f' : Nat → FlR), a + 1 ≤ i ∧ (i ≤ b ∨ i = a + 1) ∧ iv = .int .i64 i ∧ Mv a b f f' ∧ Srt ltR a i f' ∧ Rw wr g N f' ∧ Fr [g] w wr
theorem Fr.rw_below {w0 w w' : World} {g N : Nat} {f : Nat → FlR} (h : Fr [g] w0 w) (hr : Rw w g N f) (hb : Below w.heap.size w w') : Rw w' g N f ∧ Fr [g] w0 w' :=
  ⟨hr.keep (hb.block g (by obtain ⟨cur, h1, _⟩ := hr; exact lt_of_heap h1)), h.trans (Fr.of_below hb _)⟩
set_option maxHeartbeats 4000000 in
set_option maxRecDepth 100000 in
theorem insert_any (w : World) (g N a b : Nat) (f : Nat → FlR) (hr : Rw w g N f) (hN : N ≤ 1048576) (hab : a ≤ b) (hb : b ≤ N) :
    Calls Tryd.prog 107 #[.slice (some ⟨g, 0, none⟩) N N, .int .i64 (a : Nat), .int .i64 (b : Nat), CmpV] w (SrPost w g N a b f) := by
  have H0 : Hid (OutRel w g N a b f (.int .i64 ((a : Int) + 1)) w) := Lib.hid ⟨a + 1, f, by omega, by omega, by simp, Mv.refl _ _ _, Srt.small _ (by omega), hr, Fr.refl _ _⟩
  clear hr
  unfold CmpV
  go_enter Tryd.func107, Tryd.ntmps107
  go_wp2_with fail
  go_loopw [8] (fun iv wr => OutRel w g N a b f iv wr) (fun iv _ => b - (intOf iv).toNat)
  case atStart => exact H0.out
  case round =>
    clear H0
    obtain ⟨i, f1, hi1, hi2, rfl, hm, hs, hr, hf⟩ := hrel
    by_cases hlt : i < b
    · have hlI : (i : Int) < b := by omega
      have Hin : Hid (IjRel w g N a b i f (.int .i64 i) wr) := Lib.hid ⟨i, f1, by omega, by omega, rfl, hm, Ins.start hs, hr, hf⟩
      clear hm hs hr hf
      go_wp2_with fail
      obtain ⟨wo, rfl⟩ : ∃ wo : World, wo = wr := ⟨_, rfl⟩
      go_loopw [9] (fun jv wr => IjRel w g N a b i f jv wr) (fun jv _ => (intOf jv).toNat)
      case atStart => exact Hin.out
      case round =>
        clear Hin
        obtain ⟨j, f2, hj1, hj2, rfl, hm, hs, hr, hf⟩ := hrel
        by_cases hja : a < j
        · have hjI : (a : Int) < j := by omega
          obtain ⟨c1, c2⟩ := hr.at_ (i := j) (by omega)
          obtain ⟨d1, d2⟩ := hr.at_ (i := j - 1) (by omega)
          have k1 := IntWalk.i64_in ((j : Int) - 1) (by omega)
          have b1 : (0 : Int) ≤ (j : Int) - 1 := by omega
          have b2 : (j : Int) - 1 < N := by omega
          have b3 : (0 : Int) ≤ (j : Int) := by omega
          have b5 : (1 : Int) ≤ (j : Int) := by omega
          have b4 : (j : Int) < N := by omega
          have t1 : ((j : Int) - 1).toNat = j - 1 := by omega
          obtain ⟨x, hx⟩ : ∃ x, x = f2 j := ⟨_, rfl⟩
          obtain ⟨y, hy⟩ : ∃ y, y = f2 (j - 1) := ⟨_, rfl⟩
          rw [← hx] at c1 c2
          rw [← hy] at d1 d2
          have Hx := Lib.hid hx
          have Hy := Lib.hid hy
          have Hr := Lib.hid hr
          have Hf := Lib.hid hf
          have Hm := Lib.hid hm
          have Hs := Lib.hid hs
          unfold FlR.sl at c2 d2
          have C1 := Lib.hid c1
          have C2 := Lib.hid c2
          have D1 := Lib.hid d1
          have D2 := Lib.hid d2
          clear hx hy hr hf hm hs c1 c2 d1 d2
          go_wp2_with fail
          with_reducible refine g_mixx [(0, 0), (1, 0), (2, 0), (3, 0), (4, 0), (5, 0), (6, 0), (7, 0), (8, 0), (9, 0), (10, 0), (11, 0), (12, 0), (13, 0), (14, 2), (15, 0), (16, 0)] (fun w' => (w'.cell? ⟨g, j * 2, none⟩ = some (.string x.nm) ∧ w'.cell? ⟨g, j * 2 + 1, none⟩ = some (.slice x.ad x.n x.c)) ∧ w'.cell? ⟨g, (j - 1) * 2, none⟩ = some (.string y.nm) ∧ w'.cell? ⟨g, (j - 1) * 2 + 1, none⟩ = some (.slice y.ad y.n y.c)) 3 (some 21) rfl (by kernel_rfl) (by kernel_rfl) ?_ ?_
          · exact ⟨⟨C1.out, C2.out⟩, D1.out, D2.out⟩
          intro OPS HD
          simp only [mixX, nthO, consX]
          iterate 4 ((with_reducible refine x_val (v := ?_) ?_ ?_ ?_); rotate_left; (rintro _ _; (try simp only [k1]); go_simp; first | done | rfl | (constructor <;> rfl)); exact ⟨⟨C1.out, C2.out⟩, D1.out, D2.out⟩)
          iterate 10 ((with_reducible refine x_valg (v := ?_) HD ?_ ?_ ?_ ?_); rotate_left; go_simp; (rintro _ ⟨⟨c1, c2⟩, d1, d2⟩; (try simp only [k1]); go_simp; first | done | rfl | (constructor <;> rfl)); exact ⟨⟨C1.out, C2.out⟩, D1.out, D2.out⟩)
          with_reducible refine x_one ?_
          refine l_onceg HD (by go_simp) ?_
          refine l_call ?_ ((cmp_at _ x y).mono ?_)
          · go_simp
          rintro e w1 ⟨⟨k, rfl, hk⟩, hb1⟩
          have hb1' : Below wr.heap.size wr w1 := ⟨hb1.os, hb1.tape, hb1.output, hb1.size, hb1.block⟩
          obtain ⟨hr1, hf1⟩ := Hf.out.rw_below Hr.out hb1'
          have hcell := Cells.of_below hb1'
          refine ⟨_, rfl, ?_⟩
          refine x_keep ⟨⟨hcell _ _ C1.out, hcell _ _ C2.out⟩, hcell _ _ D1.out, hcell _ _ D2.out⟩ ?_
          have HH := Lib.hid (And.intro hr1 hf1)
          have C3 := Lib.hid (hcell _ _ C1.out)
          have C4 := Lib.hid (hcell _ _ C2.out)
          have D3 := Lib.hid (hcell _ _ D1.out)
          have D4 := Lib.hid (hcell _ _ D2.out)
          clear hr1 hf1 hcell hb1 hb1' Hr Hf C1 C2 D1 D2
          cases hl : ltR x y with
          | true =>
            rw [hl] at hk
            have hkd := hk.symm
            have Hl := Lib.hid hl
            clear hk hl
            iterate 1 ((with_reducible refine x_valg (v := ?_) HD ?_ ?_ ?_ ?_); rotate_left; go_simp; (rintro _ _; (try simp only [hkd]); go_simp; first | done | rfl | (constructor <;> rfl)); exact ⟨⟨C3.out, C4.out⟩, D3.out, D4.out⟩)
            iterate 1 ((with_reducible refine x_val (v := ?_) ?_ ?_ ?_); rotate_left; (rintro _ _; (try simp only [hkd]); go_simp; first | done | rfl | (constructor <;> rfl)); exact ⟨⟨C3.out, C4.out⟩, D3.out, D4.out⟩)
            with_reducible refine x_end ?_
            simp only [Act.put, List.setIfInBounds_toArray, List.set_cons_zero, List.set_cons_succ]
            go_wp2_with fail
            with_reducible refine g_mixx [(0, 0), (1, 0), (2, 1), (3, 1), (4, 1), (5, 0), (6, 0), (7, 0), (8, 0), (9, 0), (10, 0), (11, 0), (12, 0), (13, 0), (14, 0), (15, 3), (16, 1), (17, 3)] (fun w' => (w'.cell? ⟨g, j * 2, none⟩ = some (.string x.nm) ∧ w'.cell? ⟨g, j * 2 + 1, none⟩ = some (.slice x.ad x.n x.c)) ∧ w'.cell? ⟨g, (j - 1) * 2, none⟩ = some (.string y.nm) ∧ w'.cell? ⟨g, (j - 1) * 2 + 1, none⟩ = some (.slice y.ad y.n y.c)) 0 _ rfl (by kernel_rfl) (by kernel_rfl) ?_ ?_
            · exact ⟨⟨C3.out, C4.out⟩, D3.out, D4.out⟩
            intro OPS2 HD2
            simp only [mixX, nthO, consX]
            iterate 2 ((with_reducible refine x_val (v := ?_) ?_ ?_ ?_); rotate_left; (rintro _ _; (try simp only [k1]); go_simp; first | done | rfl | (constructor <;> rfl)); exact ⟨⟨C3.out, C4.out⟩, D3.out, D4.out⟩)
            iterate 3 ((with_reducible refine x_any (v := ?_) ?_ ?_); rotate_left; (rintro _; (try simp only [k1]); go_simp; first | done | rfl | (constructor <;> rfl)))
            iterate 10 ((with_reducible refine x_val (v := ?_) ?_ ?_ ?_); rotate_left; (rintro _ ⟨⟨c1, c2⟩, d1, d2⟩; (try simp only [k1]); go_simp; first | done | rfl | (constructor <;> rfl)); exact ⟨⟨C3.out, C4.out⟩, D3.out, D4.out⟩)
            have fz : ∀ o, w1.frozen? ⟨g, o, none⟩ = false := HH.out.1.free
            have hr1 : Rw ((w1.drew.setCell ⟨g, j * 2, none⟩ (.string y.nm)).setCell ⟨g, j * 2 + 1, none⟩ (.slice y.ad y.n y.c)) g N (upd f2 j y) := Rw.put (w := w1.drew) (HH.out.1.keep rfl) (by omega) y
            with_reducible refine x_three ?_
            with_reducible refine l_skip (w' := (w1.drew.setCell ⟨g, j * 2, none⟩ (.string y.nm)).setCell ⟨g, j * 2 + 1, none⟩ (.slice y.ad y.n y.c)) ?_ ?_
            · have c1 := C3.out
              have c2 := C4.out
              go_simp
            have fz1 := hr1.free
            have hr2 := Rw.put hr1 (i := j - 1) (by omega) x
            unfold FlR.sl at hr2
            obtain ⟨e1, e2⟩ := hr1.at_ (i := j - 1) (by omega)
            unfold FlR.sl at e2
            refine x_last ?_
            iterate 1 ((with_reducible refine x_any (v := ?_) ?_ ?_); rotate_left; (rintro _; (try simp only [k1]); go_simp; first | done | rfl | (constructor <;> rfl)))
            have Hw1 : Hid (Fr [g] w1 ((w1.drew.setCell ⟨g, j * 2, none⟩ (.string y.nm)).setCell ⟨g, j * 2 + 1, none⟩ (.slice y.ad y.n y.c))) := Lib.hid (((Fr.refl [g] w1).drewN 1).trans ((Fr.setCell [g] _ _ _ (by simp)).trans (Fr.setCell [g] _ _ _ (by simp))))
            generalize (w1.drew.setCell ⟨g, j * 2, none⟩ (.string y.nm)).setCell ⟨g, j * 2 + 1, none⟩ (.slice y.ad y.n y.c) = w2 at *
            with_reducible refine x_three ?_
            with_reducible refine l_skip (w' := (w2.setCell ⟨g, (j - 1) * 2, none⟩ (.string x.nm)).setCell ⟨g, (j - 1) * 2 + 1, none⟩ (.slice x.ad x.n x.c)) ?_ ?_
            · go_simp
            have Hfin : Hid (IjRel w g N a b i f (.int .i64 ((j : Int) - 1)) ((w2.setCell ⟨g, (j - 1) * 2, none⟩ (.string x.nm)).setCell ⟨g, (j - 1) * 2 + 1, none⟩ (.slice x.ad x.n x.c))) := Lib.hid ⟨j - 1, swp f2 j (j - 1), by omega, by omega, by rw [Int.ofNat_sub (by omega)]; rfl, Hm.out.trans (swp_mv f2 (by omega) (by omega) (by omega) (by omega)), Hs.out.step ordR hja hj2 (by rw [← Hx.out, ← Hy.out]; exact Hl.out), by
              rw [← upd_swp, ← Hx.out, ← Hy.out]
              exact hr2, HH.out.2.trans (Hw1.out.trans ((Fr.setCell [g] w2 _ _ (by simp)).trans (Fr.setCell [g] _ _ _ (by simp))))⟩
            refine x_last ?_
            with_reducible refine x_end ?_
            clear hr1 hr2 fz1 e1 e2 b1 b2 b3 b4 b5 t1 fz hkd
            simp only [Act.put, List.setIfInBounds_toArray, List.set_cons_zero, List.set_cons_succ]
            go_wp2_with fail
            go_roundw
            case rel => exact Hfin.out
            case measure => simp [intOf]; omega
          | false =>
            rw [hl] at hk
            have hkd := hk.symm
            have Hl := Lib.hid hl
            clear hk hl
            iterate 1 ((with_reducible refine x_valg (v := ?_) HD ?_ ?_ ?_ ?_); rotate_left; go_simp; (rintro _ _; (try simp only [hkd]); go_simp; first | done | rfl | (constructor <;> rfl)); exact ⟨⟨C3.out, C4.out⟩, D3.out, D4.out⟩)
            iterate 1 ((with_reducible refine x_val (v := ?_) ?_ ?_ ?_); rotate_left; (rintro _ _; (try simp only [hkd]); go_simp; first | done | rfl | (constructor <;> rfl)); exact ⟨⟨C3.out, C4.out⟩, D3.out, D4.out⟩)
            with_reducible refine x_end ?_
            simp only [Act.put, List.setIfInBounds_toArray, List.set_cons_zero, List.set_cons_succ]
            have Hfin : Hid (OutRel w g N a b f (.int .i64 ((i : Int) + 1)) w1) := Lib.hid ⟨i + 1, f2, by omega, by omega, by simp, Hm.out, Hs.out.done ordR (by omega) hj2 (fun _ => by rw [← Hx.out, ← Hy.out]; exact Hl.out), HH.out.1, HH.out.2⟩
            clear hkd b1 b2 b3 b4 b5 t1 k1
            go_wp2_with fail
            exact ⟨Hfin.out, by simp only [intOf]; omega⟩
        · have hjI : ¬ (a : Int) < j := by omega
          obtain rfl : j = a := by omega
          have Hfin : Hid (OutRel w g N j b f (.int .i64 ((i : Int) + 1)) wr.drew) := Lib.hid ⟨i + 1, f2, by omega, by omega, by simp, hm, hs.done ordR (by omega) hj2 (fun h => absurd h (by omega)), hr.keep rfl, hf.drewN 1⟩
          clear hm hs hr hf
          go_wp2_with fail
          with_reducible refine g_mixx [(0, 0), (1, 0), (2, 0), (3, 0), (4, 0), (5, 0), (6, 0), (7, 0), (8, 0), (9, 0), (10, 0), (11, 0), (12, 0), (13, 0), (14, 0), (15, 0), (16, 0)] (fun _ => True) 3 (some 21) rfl (by kernel_rfl) (by kernel_rfl) trivial ?_
          intro OPS HD
          simp only [mixX, nthO, consX]
          iterate 4 ((with_reducible refine x_val (v := ?_) ?_ ?_ ?_); rotate_left; (rintro _ _; go_simp; first | done | rfl | (constructor <;> rfl)); exact trivial)
          iterate 12 (with_reducible refine x_outg (c := false) HD (by go_simp) rfl trivial ?_)
          iterate 1 ((with_reducible refine x_val (v := ?_) ?_ ?_ ?_); rotate_left; (rintro _ _; go_simp; first | done | rfl | (constructor <;> rfl)); exact trivial)
          with_reducible refine x_end ?_
          simp only [Act.put, List.setIfInBounds_toArray, List.set_cons_zero, List.set_cons_succ]
          go_wp2_with fail
          exact ⟨Hfin.out, by simp only [intOf]; omega⟩
    · have hlI : ¬ (i : Int) < b := by omega
      have Hfin : Hid (SrPost w g N a b f (.returned (.tuple #[])) wr) := Lib.hid ⟨rfl, f1, hm, hs.sub (by omega) (by omega), hr, hf⟩
      clear hm hs hr hf
      go_wp2_with fail
      go_end0
      exact Hfin.out
end Go.Proofs.YtdmladdpbdcpjaaDoor
namespace Go.Proofs.YtdmladdpbdcpjaaDoor
open Go.RowKit

set_option linter.unusedSimpArgs false

attribute [local go_sem] lt1 lt2 lt3 lt4 lt5 lt6

def B1Rel (w : World) (g N a m b : Nat) (f : Nat → FlR) (iv jv : Value) (wr : World) : Prop :=
  ∃ i j : Nat, m ≤ i ∧ i ≤ j ∧ j ≤ b ∧ iv = .int .i64 i ∧ jv = .int .i64 j ∧ (∀ q, m ≤ q → q < i → ltR (f q) (f a) = true) ∧ (∀ q, j ≤ q → q < b → ltR (f q) (f a) = false) ∧ Rw wr g N f ∧ Fr [g] w wr
def B2Rel (w : World) (g N a i : Nat) (f : Nat → FlR) (kv : Value) (wr : World) : Prop :=
  ∃ k : Nat, a ≤ k ∧ k + 1 ≤ i ∧ kv = .int .i64 k ∧ Rw wr g N (rot f a (a + 1) (k + 1)) ∧ Fr [g] w wr
set_option maxHeartbeats 4000000 in
set_option maxRecDepth 100000 in
theorem sym_up (w : World) (g N a m b : Nat) (f : Nat → FlR) (hr : Rw w g N f) (hN : N ≤ 1048576) (hm : m = a + 1) (hmb : m < b) (hb : b ≤ N) (hs : Srt ltR m b f) :
    Calls Tryd.prog 108 #[.slice (some ⟨g, 0, none⟩) N N, .int .i64 (a : Nat), .int .i64 (m : Nat), .int .i64 (b : Nat), CmpV] w (SrPost w g N a b f) := by
  have H0 : Hid (B1Rel w g N a m b f (.int .i64 m) (.int .i64 b) w) := Lib.hid ⟨m, b, by omega, by omega, by omega, rfl, rfl, fun q h1 h2 => absurd h2 (by omega), fun q h1 h2 => absurd h2 (by omega), hr, Fr.refl _ _⟩
  have ht : ((m : Int) - a == 1) = true := by rw [beq_iff_eq]; omega
  have k0 := IntWalk.i64_in ((m : Int) - a) (by omega)
  have Hm := Lib.hid hm
  have Hs := Lib.hid hs
  clear hr hm hs
  unfold CmpV
  go_enter Tryd.func108, Tryd.ntmps108
  go_wp2_with fail
  go_loopw [10, 11] (fun iv jv wr => B1Rel w g N a m b f iv jv wr) (fun iv jv _ => (intOf jv).toNat - (intOf iv).toNat)
  case atStart => exact H0.out
  case round =>
    clear H0 ht k0
    obtain ⟨i, j, h1, h2, h3, rfl, rfl, hlo, hhi, hr, hf⟩ := hrel
    by_cases hlt : i < j
    · have hlI : (i : Int) < j := by omega
      obtain ⟨h, hh⟩ : ∃ h, h = (i + j) / 2 := ⟨_, rfl⟩
      have g1 : i ≤ h := by omega
      have g2 : h < j := by omega
      have ha := Hm.out
      have k1 := IntWalk.i64_in ((i : Int) + j) (by omega)
      have hI2 : ((i : Int) + j) / 2 = h := by omega
      have b1 : (h : Int) < N := by omega
      have b2 : (a : Int) < N := by omega
      have k2 := IntWalk.i64_in ((h : Int) + 1) (by omega)
      have Hlo := Lib.hid hlo
      have Hhi := Lib.hid hhi
      obtain ⟨c1, c2⟩ := hr.at_ (i := h) (by omega)
      obtain ⟨d1, d2⟩ := hr.at_ (i := a) (by omega)
      obtain ⟨x, hx⟩ : ∃ x, x = f (h) := ⟨_, rfl⟩
      obtain ⟨y, hy⟩ : ∃ y, y = f (a) := ⟨_, rfl⟩
      rw [← hx] at c1 c2
      rw [← hy] at d1 d2
      have Hx := Lib.hid hx
      have Hy := Lib.hid hy
      have Hr := Lib.hid hr
      have Hf := Lib.hid hf
      unfold FlR.sl at c2 d2
      have C1 := Lib.hid c1
      have C2 := Lib.hid c2
      have D1 := Lib.hid d1
      have D2 := Lib.hid d2
      clear hx hy hr hf c1 c2 d1 d2
      clear hlo hhi hh ha
      go_wp2_with fail
      with_reducible refine g_mixx [(0, 0), (1, 0), (2, 0), (3, 0), (4, 0), (5, 0), (6, 0), (7, 0), (8, 0), (9, 2), (10, 0)] (fun w' => (w'.cell? ⟨g, (h) * 2, none⟩ = some (.string x.nm) ∧ w'.cell? ⟨g, (h) * 2 + 1, none⟩ = some (.slice x.ad x.n x.c)) ∧ w'.cell? ⟨g, (a) * 2, none⟩ = some (.string y.nm) ∧ w'.cell? ⟨g, (a) * 2 + 1, none⟩ = some (.slice y.ad y.n y.c)) 0 _ rfl (by kernel_rfl) (by kernel_rfl) ?_ ?_
      · exact ⟨⟨C1.out, C2.out⟩, D1.out, D2.out⟩
      intro OPS HD
      simp only [mixX, nthO, consX]
      iterate 9 ((with_reducible refine x_val (v := ?_) ?_ ?_ ?_); rotate_left; (rintro _ ⟨⟨c1, c2⟩, d1, d2⟩; (try simp only [k1]); go_simp; first | done | rfl | (constructor <;> rfl)); exact ⟨⟨C1.out, C2.out⟩, D1.out, D2.out⟩)
      with_reducible refine x_one ?_
      refine l_call ?_ ((cmp_at _ x y).mono ?_)
      · go_simp
      rintro e w1 ⟨⟨kk, rfl, hk⟩, hb1⟩
      have hb1' : Below wr.heap.size wr w1 := ⟨hb1.os, hb1.tape, hb1.output, hb1.size, hb1.block⟩
      obtain ⟨hr1, hf1⟩ := Hf.out.rw_below Hr.out hb1'
      have hcell := Cells.of_below hb1'
      refine ⟨_, rfl, ?_⟩
      refine x_keep ⟨⟨hcell _ _ C1.out, hcell _ _ C2.out⟩, hcell _ _ D1.out, hcell _ _ D2.out⟩ ?_
      have HH := Lib.hid (And.intro hr1 hf1)
      have C3 := Lib.hid (hcell _ _ C1.out)
      have C4 := Lib.hid (hcell _ _ C2.out)
      have D3 := Lib.hid (hcell _ _ D1.out)
      have D4 := Lib.hid (hcell _ _ D2.out)
      clear hr1 hf1 hcell hb1 hb1' Hr Hf C1 C2 D1 D2
      cases hl : ltR x y with
      | true =>
        rw [hl] at hk
        have hkd := hk.symm
        have Hl := Lib.hid hl
        clear hk hl
        iterate 1 ((with_reducible refine x_val (v := ?_) ?_ ?_ ?_); rotate_left; (rintro _ _; (try simp only [hkd]); go_simp; first | done | rfl | (constructor <;> rfl)); exact ⟨⟨C3.out, C4.out⟩, D3.out, D4.out⟩)
        with_reducible refine x_end ?_
        simp only [Act.put, List.setIfInBounds_toArray, List.set_cons_zero, List.set_cons_succ]
        clear hkd C3 C4 D3 D4
        have hnew : ∀ q, m ≤ q → q < h + 1 → ltR (f q) (f a) = true := fun q q1 q2 => by
          by_cases e : q < i
          · exact Hlo.out q q1 e
          · have h6 := Hl.out
            rw [Hx.out, Hy.out] at h6
            cases h7 : ltR (f q) (f a) with
            | true => rfl
            | false =>
              rw [ordR.trans _ _ _ h7 (Hs.out.le ordR (by omega) (show q ≤ h by omega) (by omega))] at h6
              cases h6
        have Hfin : Hid (B1Rel w g N a m b f (.int .i64 ((h : Int) + 1)) (.int .i64 j) w1) := Lib.hid ⟨h + 1, j, by omega, by omega, h3, by simp, rfl, hnew, Hhi.out, HH.out.1, HH.out.2⟩
        clear hnew
        go_wp2_with fail
        go_roundw
        case rel => exact Hfin.out
        case measure => simp [intOf]; omega
      | false =>
        rw [hl] at hk
        have hkd := hk.symm
        have Hl := Lib.hid hl
        clear hk hl
        iterate 1 ((with_reducible refine x_val (v := ?_) ?_ ?_ ?_); rotate_left; (rintro _ _; (try simp only [hkd]); go_simp; first | done | rfl | (constructor <;> rfl)); exact ⟨⟨C3.out, C4.out⟩, D3.out, D4.out⟩)
        with_reducible refine x_end ?_
        simp only [Act.put, List.setIfInBounds_toArray, List.set_cons_zero, List.set_cons_succ]
        clear hkd C3 C4 D3 D4
        have hnew : ∀ q, h ≤ q → q < b → ltR (f q) (f a) = false := fun q q1 q2 => by
          have h6 := Hl.out
          rw [Hx.out, Hy.out] at h6
          exact ordR.trans _ _ _ h6 (Hs.out.le ordR (by omega) q1 q2)
        have Hfin : Hid (B1Rel w g N a m b f (.int .i64 i) (.int .i64 h) w1) := Lib.hid ⟨i, h, h1, g1, by omega, rfl, rfl, Hlo.out, hnew, HH.out.1, HH.out.2⟩
        clear hnew
        go_wp2_with fail
        go_roundw
        case rel => exact Hfin.out
        case measure => simp [intOf]; omega
    · obtain rfl : i = j := by omega
      have H2 : Hid (B2Rel w g N a i f (.int .i64 a) wr) := Lib.hid ⟨a, by omega, by have := Hm.out; omega, rfl, by rw [rot_nil f (by omega) (by omega) (.inr rfl)]; exact hr, hf⟩
      have Hlo := Lib.hid hlo
      have Hhi := Lib.hid hhi
      have ha := Hm.out
      have k3 := IntWalk.i64_in ((i : Int) - 1) (by omega)
      clear hlo hhi hr hf ha
      go_wp2_with fail
      go_loopw [13] (fun kv wr => B2Rel w g N a i f kv wr) (fun kv _ => i - (intOf kv).toNat)
      case atStart => exact H2.out
      case round =>
        clear H2
        obtain ⟨k, q1, q2, rfl, hr, hf⟩ := hrel
        by_cases hlt2 : k + 1 < i
        · have hlI : (k : Int) < (i : Int) - 1 := by omega
          have k4 := IntWalk.i64_in ((k : Int) + 1) (by omega)
          have b1 : (k : Int) < N := by omega
          have b2 : (k : Int) + 1 < N := by omega
          have b3 : (0 : Int) ≤ (k : Int) + 1 := by omega
          have t1 : ((k : Int) + 1).toNat = k + 1 := by omega
          obtain ⟨c1, c2⟩ := hr.at_ (i := k) (by omega)
          obtain ⟨d1, d2⟩ := hr.at_ (i := k + 1) (by omega)
          obtain ⟨x, hx⟩ : ∃ x, x = rot f a (a + 1) (k + 1) (k) := ⟨_, rfl⟩
          obtain ⟨y, hy⟩ : ∃ y, y = rot f a (a + 1) (k + 1) (k + 1) := ⟨_, rfl⟩
          rw [← hx] at c1 c2
          rw [← hy] at d1 d2
          have Hx := Lib.hid hx
          have Hy := Lib.hid hy
          have Hr := Lib.hid hr
          have Hf := Lib.hid hf
          unfold FlR.sl at c2 d2
          have C1 := Lib.hid c1
          have C2 := Lib.hid c2
          have D1 := Lib.hid d1
          have D2 := Lib.hid d2
          clear hx hy hr hf c1 c2 d1 d2
          go_wp2_with fail
          with_reducible refine g_mixx [(0, 0), (1, 0), (2, 1), (3, 1), (4, 1), (5, 0), (6, 0), (7, 0), (8, 0), (9, 0), (10, 0), (11, 0), (12, 0), (13, 0), (14, 0), (15, 3), (16, 1), (17, 3)] (fun w' => (w'.cell? ⟨g, (k) * 2, none⟩ = some (.string x.nm) ∧ w'.cell? ⟨g, (k) * 2 + 1, none⟩ = some (.slice x.ad x.n x.c)) ∧ w'.cell? ⟨g, (k + 1) * 2, none⟩ = some (.string y.nm) ∧ w'.cell? ⟨g, (k + 1) * 2 + 1, none⟩ = some (.slice y.ad y.n y.c)) 0 _ rfl (by kernel_rfl) (by kernel_rfl) ?_ ?_
          · exact ⟨⟨C1.out, C2.out⟩, D1.out, D2.out⟩
          intro OPS HD
          simp only [mixX, nthO, consX]
          iterate 2 ((with_reducible refine x_val (v := ?_) ?_ ?_ ?_); rotate_left; (rintro _ _; (try simp only [k4]); go_simp; first | done | rfl | (constructor <;> rfl)); exact ⟨⟨C1.out, C2.out⟩, D1.out, D2.out⟩)
          iterate 3 ((with_reducible refine x_any (v := ?_) ?_ ?_); rotate_left; (rintro _; (try simp only [k4]); go_simp; first | done | rfl | (constructor <;> rfl)))
          iterate 10 ((with_reducible refine x_val (v := ?_) ?_ ?_ ?_); rotate_left; (rintro _ ⟨⟨c1, c2⟩, d1, d2⟩; (try simp only [k4]); go_simp; first | done | rfl | (constructor <;> rfl)); exact ⟨⟨C1.out, C2.out⟩, D1.out, D2.out⟩)
          have fz : ∀ o, wr.frozen? ⟨g, o, none⟩ = false := Hr.out.free
          have hr1 : Rw ((wr.drew.setCell ⟨g, (k) * 2, none⟩ (.string y.nm)).setCell ⟨g, (k) * 2 + 1, none⟩ (.slice y.ad y.n y.c)) g N (upd (rot f a (a + 1) (k + 1)) (k) y) := Rw.put (w := wr.drew) (Hr.out.keep rfl) (by omega) y
          with_reducible refine x_three ?_
          with_reducible refine l_skip (w' := (wr.drew.setCell ⟨g, (k) * 2, none⟩ (.string y.nm)).setCell ⟨g, (k) * 2 + 1, none⟩ (.slice y.ad y.n y.c)) ?_ ?_
          · have c1 := C1.out
            have c2 := C2.out
            go_simp
          have fz1 := hr1.free
          have hr2 := Rw.put hr1 (i := k + 1) (by omega) x
          unfold FlR.sl at hr2
          obtain ⟨e1, e2⟩ := hr1.at_ (i := k + 1) (by omega)
          unfold FlR.sl at e2
          refine x_last ?_
          iterate 1 ((with_reducible refine x_any (v := ?_) ?_ ?_); rotate_left; (rintro _; (try simp only [k4]); go_simp; first | done | rfl | (constructor <;> rfl)))
          have Hw1 : Hid (Fr [g] wr ((wr.drew.setCell ⟨g, (k) * 2, none⟩ (.string y.nm)).setCell ⟨g, (k) * 2 + 1, none⟩ (.slice y.ad y.n y.c))) := Lib.hid (((Fr.refl [g] wr).drewN 1).trans ((Fr.setCell [g] _ _ _ (by simp)).trans (Fr.setCell [g] _ _ _ (by simp))))
          generalize (wr.drew.setCell ⟨g, (k) * 2, none⟩ (.string y.nm)).setCell ⟨g, (k) * 2 + 1, none⟩ (.slice y.ad y.n y.c) = w2 at *
          with_reducible refine x_three ?_
          with_reducible refine l_skip (w' := (w2.setCell ⟨g, (k + 1) * 2, none⟩ (.string x.nm)).setCell ⟨g, (k + 1) * 2 + 1, none⟩ (.slice x.ad x.n x.c)) ?_ ?_
          · go_simp
          have hr3 : Rw ((w2.setCell ⟨g, (k + 1) * 2, none⟩ (.string x.nm)).setCell ⟨g, (k + 1) * 2 + 1, none⟩ (.slice x.ad x.n x.c)) g N (swp (rot f a (a + 1) (k + 1)) (k) (k + 1)) := by
            rw [← upd_swp, ← Hx.out, ← Hy.out]
            exact hr2
          have hf3 : Fr [g] w ((w2.setCell ⟨g, (k + 1) * 2, none⟩ (.string x.nm)).setCell ⟨g, (k + 1) * 2 + 1, none⟩ (.slice x.ad x.n x.c)) := Hf.out.trans (Hw1.out.trans ((Fr.setCell [g] w2 _ _ (by simp)).trans (Fr.setCell [g] _ _ _ (by simp))))
          have HR3 := Lib.hid hr3
          have HF3 := Lib.hid hf3
          generalize (w2.setCell ⟨g, (k + 1) * 2, none⟩ (.string x.nm)).setCell ⟨g, (k + 1) * 2 + 1, none⟩ (.slice x.ad x.n x.c) = w3 at *
          refine x_last ?_
          with_reducible refine x_end ?_
          clear hr1 hr2 fz1 e1 e2 fz hr3 hf3
          simp only [Act.put, List.setIfInBounds_toArray, List.set_cons_zero, List.set_cons_succ]
          have Hfin : Hid (B2Rel w g N a i f (.int .i64 ((k : Int) + 1)) w3) := Lib.hid ⟨k + 1, by omega, by omega, by simp, by
            have := HR3.out
            rw [rot_up f q1] at this
            exact this, HF3.out⟩
          clear b1 b2 b3 t1
          go_wp2_with fail
          go_roundw
          case rel => exact Hfin.out
          case measure => simp [intOf]; omega
        · have hlI : ¬ (k : Int) < (i : Int) - 1 := by omega
          obtain rfl : i = k + 1 := by omega
          have Hfin : Hid (SrPost w g N a b f (.returned (.tuple #[])) wr) := Lib.hid ⟨rfl, _, (rot_mv f (by omega) (by omega)).wide (Nat.le_refl a) h3, up_sorted ordR (by have := Hm.out; rw [← this]; exact Hs.out) (by omega) h3 (fun q r1 r2 => Hlo.out q (by have := Hm.out; omega) r2) Hhi.out, hr, hf⟩
          clear hr hf
          go_wp2_with fail
          go_end0
          exact Hfin.out
end Go.Proofs.YtdmladdpbdcpjaaDoor
namespace Go.Proofs.YtdmladdpbdcpjaaDoor
open Go.RowKit

set_option linter.unusedSimpArgs false

attribute [local go_sem] lt1 lt2 lt3 lt4 lt5 lt6

theorem rot_down' (f : Nat → FlR) {m k : Nat} (h0 : 0 < k) (h : k ≤ m) : swp (rot f k m (m + 1)) k (k - 1) = rot f (k - 1) m (m + 1) := by
  have := rot_down f (m := m) (k := k - 1) (by omega)
  rw [show k - 1 + 1 = k by omega] at this
  exact this
def B3Rel (w : World) (g N a m : Nat) (f : Nat → FlR) (iv jv : Value) (wr : World) : Prop :=
  ∃ i j : Nat, a ≤ i ∧ i ≤ j ∧ j ≤ m ∧ iv = .int .i64 i ∧ jv = .int .i64 j ∧ (∀ q, a ≤ q → q < i → ltR (f m) (f q) = false) ∧ (∀ q, j ≤ q → q < m → ltR (f m) (f q) = true) ∧ Rw wr g N f ∧ Fr [g] w wr
def B4Rel (w : World) (g N i m : Nat) (f : Nat → FlR) (kv : Value) (wr : World) : Prop :=
  ∃ k : Nat, i ≤ k ∧ k ≤ m ∧ kv = .int .i64 k ∧ Rw wr g N (rot f k m (m + 1)) ∧ Fr [g] w wr
set_option maxHeartbeats 4000000 in
set_option maxRecDepth 100000 in
theorem sym_down (w : World) (g N a m b : Nat) (f : Nat → FlR) (hr : Rw w g N f) (hN : N ≤ 1048576) (hm : b = m + 1) (hma : a + 1 < m) (hb : b ≤ N) (hs : Srt ltR a m f) :
    Calls Tryd.prog 108 #[.slice (some ⟨g, 0, none⟩) N N, .int .i64 (a : Nat), .int .i64 (m : Nat), .int .i64 (b : Nat), CmpV] w (SrPost w g N a b f) := by
  have H0 : Hid (B3Rel w g N a m f (.int .i64 a) (.int .i64 m) w) := Lib.hid ⟨a, m, by omega, by omega, by omega, rfl, rfl, fun q h1 h2 => absurd h2 (by omega), fun q h1 h2 => absurd h2 (by omega), hr, Fr.refl _ _⟩
  have ht : ((m : Int) - a == 1) = false := by rw [beq_eq_false_iff_ne]; omega
  have ht2 : ((b : Int) - m == 1) = true := by rw [beq_iff_eq]; omega
  have k0 := IntWalk.i64_in ((m : Int) - a) (by omega)
  have k0' := IntWalk.i64_in ((b : Int) - m) (by omega)
  have Hm := Lib.hid hm
  have Hs := Lib.hid hs
  clear hr hm hs
  unfold CmpV
  go_enter Tryd.func108, Tryd.ntmps108
  go_wp2_with fail
  go_loopw [14, 15] (fun iv jv wr => B3Rel w g N a m f iv jv wr) (fun iv jv _ => (intOf jv).toNat - (intOf iv).toNat)
  case atStart => exact H0.out
  case round =>
    clear H0 ht k0 ht2 k0'
    obtain ⟨i, j, h1, h2, h3, rfl, rfl, hlo, hhi, hr, hf⟩ := hrel
    by_cases hlt : i < j
    · have hlI : (i : Int) < j := by omega
      obtain ⟨h, hh⟩ : ∃ h, h = (i + j) / 2 := ⟨_, rfl⟩
      have g1 : i ≤ h := by omega
      have g2 : h < j := by omega
      have ha := Hm.out
      have k1 := IntWalk.i64_in ((i : Int) + j) (by omega)
      have hI2 : ((i : Int) + j) / 2 = h := by omega
      have b1 : (h : Int) < N := by omega
      have b2 : (m : Int) < N := by omega
      have k2 := IntWalk.i64_in ((h : Int) + 1) (by omega)
      have Hlo := Lib.hid hlo
      have Hhi := Lib.hid hhi
      obtain ⟨c1, c2⟩ := hr.at_ (i := m) (by omega)
      obtain ⟨d1, d2⟩ := hr.at_ (i := h) (by omega)
      obtain ⟨x, hx⟩ : ∃ x, x = f (m) := ⟨_, rfl⟩
      obtain ⟨y, hy⟩ : ∃ y, y = f (h) := ⟨_, rfl⟩
      rw [← hx] at c1 c2
      rw [← hy] at d1 d2
      have Hx := Lib.hid hx
      have Hy := Lib.hid hy
      have Hr := Lib.hid hr
      have Hf := Lib.hid hf
      unfold FlR.sl at c2 d2
      have C1 := Lib.hid c1
      have C2 := Lib.hid c2
      have D1 := Lib.hid d1
      have D2 := Lib.hid d2
      clear hx hy hr hf c1 c2 d1 d2
      clear hlo hhi hh ha
      go_wp2_with fail
      with_reducible refine g_mixx [(0, 0), (1, 0), (2, 0), (3, 0), (4, 0), (5, 0), (6, 0), (7, 0), (8, 0), (9, 2), (10, 0), (11, 0)] (fun w' => (w'.cell? ⟨g, (m) * 2, none⟩ = some (.string x.nm) ∧ w'.cell? ⟨g, (m) * 2 + 1, none⟩ = some (.slice x.ad x.n x.c)) ∧ w'.cell? ⟨g, (h) * 2, none⟩ = some (.string y.nm) ∧ w'.cell? ⟨g, (h) * 2 + 1, none⟩ = some (.slice y.ad y.n y.c)) 0 _ rfl (by kernel_rfl) (by kernel_rfl) ?_ ?_
      · exact ⟨⟨C1.out, C2.out⟩, D1.out, D2.out⟩
      intro OPS HD
      simp only [mixX, nthO, consX]
      iterate 9 ((with_reducible refine x_val (v := ?_) ?_ ?_ ?_); rotate_left; (rintro _ ⟨⟨c1, c2⟩, d1, d2⟩; (try simp only [k1]); go_simp; first | done | rfl | (constructor <;> rfl)); exact ⟨⟨C1.out, C2.out⟩, D1.out, D2.out⟩)
      with_reducible refine x_one ?_
      refine l_call ?_ ((cmp_at _ x y).mono ?_)
      · go_simp
      rintro e w1 ⟨⟨kk, rfl, hk⟩, hb1⟩
      have hb1' : Below wr.heap.size wr w1 := ⟨hb1.os, hb1.tape, hb1.output, hb1.size, hb1.block⟩
      obtain ⟨hr1, hf1⟩ := Hf.out.rw_below Hr.out hb1'
      have hcell := Cells.of_below hb1'
      refine ⟨_, rfl, ?_⟩
      refine x_keep ⟨⟨hcell _ _ C1.out, hcell _ _ C2.out⟩, hcell _ _ D1.out, hcell _ _ D2.out⟩ ?_
      have HH := Lib.hid (And.intro hr1 hf1)
      have C3 := Lib.hid (hcell _ _ C1.out)
      have C4 := Lib.hid (hcell _ _ C2.out)
      have D3 := Lib.hid (hcell _ _ D1.out)
      have D4 := Lib.hid (hcell _ _ D2.out)
      clear hr1 hf1 hcell hb1 hb1' Hr Hf C1 C2 D1 D2
      cases hl : ltR x y with
      | true =>
        rw [hl] at hk
        have hkd := hk.symm
        have Hl := Lib.hid hl
        clear hk hl
        iterate 2 ((with_reducible refine x_val (v := ?_) ?_ ?_ ?_); rotate_left; (rintro _ _; (try simp only [hkd]); go_simp; first | done | rfl | (constructor <;> rfl)); exact ⟨⟨C3.out, C4.out⟩, D3.out, D4.out⟩)
        with_reducible refine x_end ?_
        simp only [Act.put, List.setIfInBounds_toArray, List.set_cons_zero, List.set_cons_succ]
        clear hkd C3 C4 D3 D4
        have hnew : ∀ q, h ≤ q → q < m → ltR (f m) (f q) = true := fun q q1 q2 => by
          have h6 := Hl.out
          rw [Hx.out, Hy.out] at h6
          cases h7 : ltR (f m) (f q) with
          | true => rfl
          | false =>
            rw [ordR.trans _ _ _ (Hs.out.le ordR (by omega) q1 q2) h7] at h6
            cases h6
        have Hfin : Hid (B3Rel w g N a m f (.int .i64 i) (.int .i64 h) w1) := Lib.hid ⟨i, h, h1, g1, by omega, rfl, rfl, Hlo.out, hnew, HH.out.1, HH.out.2⟩
        clear hnew
        go_wp2_with fail
        go_roundw
        case rel => exact Hfin.out
        case measure => simp [intOf]; omega
      | false =>
        rw [hl] at hk
        have hkd := hk.symm
        have Hl := Lib.hid hl
        clear hk hl
        iterate 2 ((with_reducible refine x_val (v := ?_) ?_ ?_ ?_); rotate_left; (rintro _ _; (try simp only [hkd]); go_simp; first | done | rfl | (constructor <;> rfl)); exact ⟨⟨C3.out, C4.out⟩, D3.out, D4.out⟩)
        with_reducible refine x_end ?_
        simp only [Act.put, List.setIfInBounds_toArray, List.set_cons_zero, List.set_cons_succ]
        clear hkd C3 C4 D3 D4
        have hnew : ∀ q, a ≤ q → q < h + 1 → ltR (f m) (f q) = false := fun q q1 q2 => by
          have h6 := Hl.out
          rw [Hx.out, Hy.out] at h6
          exact ordR.trans _ _ _ (Hs.out.le ordR q1 (show q ≤ h by omega) (by omega)) h6
        have Hfin : Hid (B3Rel w g N a m f (.int .i64 ((h : Int) + 1)) (.int .i64 j) w1) := Lib.hid ⟨h + 1, j, by omega, by omega, h3, by simp, rfl, hnew, Hhi.out, HH.out.1, HH.out.2⟩
        clear hnew
        go_wp2_with fail
        go_roundw
        case rel => exact Hfin.out
        case measure => simp [intOf]; omega
    · obtain rfl : i = j := by omega
      have H2 : Hid (B4Rel w g N i m f (.int .i64 m) wr) := Lib.hid ⟨m, by omega, by omega, rfl, by rw [rot_nil f (by omega) (by omega) (.inl rfl)]; exact hr, hf⟩
      have Hlo := Lib.hid hlo
      have Hhi := Lib.hid hhi
      clear hlo hhi hr hf
      go_wp2_with fail
      go_loopw [17] (fun kv wr => B4Rel w g N i m f kv wr) (fun kv _ => (intOf kv).toNat)
      case atStart => exact H2.out
      case round =>
        clear H2
        obtain ⟨k, q1, q2, rfl, hr, hf⟩ := hrel
        have hmN : m < N := by have := Hm.out; omega
        by_cases hlt2 : i < k
        · have hlI : (i : Int) < k := by omega
          have k4 := IntWalk.i64_in ((k : Int) - 1) (by omega)
          have b1 : (0 : Int) ≤ (k : Int) - 1 := by omega
          have b2 : (k : Int) - 1 < N := by omega
          have b3 : (1 : Int) ≤ (k : Int) := by omega
          have b4 : (k : Int) < N := by omega
          have t1 : ((k : Int) - 1).toNat = k - 1 := by omega
          obtain ⟨c1, c2⟩ := hr.at_ (i := k) (by omega)
          obtain ⟨d1, d2⟩ := hr.at_ (i := k - 1) (by omega)
          obtain ⟨x, hx⟩ : ∃ x, x = rot f k m (m + 1) (k) := ⟨_, rfl⟩
          obtain ⟨y, hy⟩ : ∃ y, y = rot f k m (m + 1) (k - 1) := ⟨_, rfl⟩
          rw [← hx] at c1 c2
          rw [← hy] at d1 d2
          have Hx := Lib.hid hx
          have Hy := Lib.hid hy
          have Hr := Lib.hid hr
          have Hf := Lib.hid hf
          unfold FlR.sl at c2 d2
          have C1 := Lib.hid c1
          have C2 := Lib.hid c2
          have D1 := Lib.hid d1
          have D2 := Lib.hid d2
          clear hx hy hr hf c1 c2 d1 d2
          go_wp2_with fail
          with_reducible refine g_mixx [(0, 0), (1, 0), (2, 1), (3, 1), (4, 1), (5, 0), (6, 0), (7, 0), (8, 0), (9, 0), (10, 0), (11, 0), (12, 0), (13, 0), (14, 0), (15, 3), (16, 1), (17, 3)] (fun w' => (w'.cell? ⟨g, (k) * 2, none⟩ = some (.string x.nm) ∧ w'.cell? ⟨g, (k) * 2 + 1, none⟩ = some (.slice x.ad x.n x.c)) ∧ w'.cell? ⟨g, (k - 1) * 2, none⟩ = some (.string y.nm) ∧ w'.cell? ⟨g, (k - 1) * 2 + 1, none⟩ = some (.slice y.ad y.n y.c)) 0 _ rfl (by kernel_rfl) (by kernel_rfl) ?_ ?_
          · exact ⟨⟨C1.out, C2.out⟩, D1.out, D2.out⟩
          intro OPS HD
          simp only [mixX, nthO, consX]
          iterate 2 ((with_reducible refine x_val (v := ?_) ?_ ?_ ?_); rotate_left; (rintro _ _; (try simp only [k4]); go_simp; first | done | rfl | (constructor <;> rfl)); exact ⟨⟨C1.out, C2.out⟩, D1.out, D2.out⟩)
          iterate 3 ((with_reducible refine x_any (v := ?_) ?_ ?_); rotate_left; (rintro _; (try simp only [k4]); go_simp; first | done | rfl | (constructor <;> rfl)))
          iterate 10 ((with_reducible refine x_val (v := ?_) ?_ ?_ ?_); rotate_left; (rintro _ ⟨⟨c1, c2⟩, d1, d2⟩; (try simp only [k4]); go_simp; first | done | rfl | (constructor <;> rfl)); exact ⟨⟨C1.out, C2.out⟩, D1.out, D2.out⟩)
          have fz : ∀ o, wr.frozen? ⟨g, o, none⟩ = false := Hr.out.free
          have hr1 : Rw ((wr.drew.setCell ⟨g, (k) * 2, none⟩ (.string y.nm)).setCell ⟨g, (k) * 2 + 1, none⟩ (.slice y.ad y.n y.c)) g N (upd (rot f k m (m + 1)) (k) y) := Rw.put (w := wr.drew) (Hr.out.keep rfl) (by omega) y
          with_reducible refine x_three ?_
          with_reducible refine l_skip (w' := (wr.drew.setCell ⟨g, (k) * 2, none⟩ (.string y.nm)).setCell ⟨g, (k) * 2 + 1, none⟩ (.slice y.ad y.n y.c)) ?_ ?_
          · have c1 := C1.out
            have c2 := C2.out
            go_simp
          have fz1 := hr1.free
          have hr2 := Rw.put hr1 (i := k - 1) (by omega) x
          unfold FlR.sl at hr2
          obtain ⟨e1, e2⟩ := hr1.at_ (i := k - 1) (by omega)
          unfold FlR.sl at e2
          refine x_last ?_
          iterate 1 ((with_reducible refine x_any (v := ?_) ?_ ?_); rotate_left; (rintro _; (try simp only [k4]); go_simp; first | done | rfl | (constructor <;> rfl)))
          have Hw1 : Hid (Fr [g] wr ((wr.drew.setCell ⟨g, (k) * 2, none⟩ (.string y.nm)).setCell ⟨g, (k) * 2 + 1, none⟩ (.slice y.ad y.n y.c))) := Lib.hid (((Fr.refl [g] wr).drewN 1).trans ((Fr.setCell [g] _ _ _ (by simp)).trans (Fr.setCell [g] _ _ _ (by simp))))
          generalize (wr.drew.setCell ⟨g, (k) * 2, none⟩ (.string y.nm)).setCell ⟨g, (k) * 2 + 1, none⟩ (.slice y.ad y.n y.c) = w2 at *
          with_reducible refine x_three ?_
          with_reducible refine l_skip (w' := (w2.setCell ⟨g, (k - 1) * 2, none⟩ (.string x.nm)).setCell ⟨g, (k - 1) * 2 + 1, none⟩ (.slice x.ad x.n x.c)) ?_ ?_
          · go_simp
          have hr3 : Rw ((w2.setCell ⟨g, (k - 1) * 2, none⟩ (.string x.nm)).setCell ⟨g, (k - 1) * 2 + 1, none⟩ (.slice x.ad x.n x.c)) g N (swp (rot f k m (m + 1)) (k) (k - 1)) := by
            rw [← upd_swp, ← Hx.out, ← Hy.out]
            exact hr2
          have hf3 : Fr [g] w ((w2.setCell ⟨g, (k - 1) * 2, none⟩ (.string x.nm)).setCell ⟨g, (k - 1) * 2 + 1, none⟩ (.slice x.ad x.n x.c)) := Hf.out.trans (Hw1.out.trans ((Fr.setCell [g] w2 _ _ (by simp)).trans (Fr.setCell [g] _ _ _ (by simp))))
          have HR3 := Lib.hid hr3
          have HF3 := Lib.hid hf3
          generalize (w2.setCell ⟨g, (k - 1) * 2, none⟩ (.string x.nm)).setCell ⟨g, (k - 1) * 2 + 1, none⟩ (.slice x.ad x.n x.c) = w3 at *
          refine x_last ?_
          with_reducible refine x_end ?_
          clear hr1 hr2 fz1 e1 e2 fz hr3 hf3
          simp only [Act.put, List.setIfInBounds_toArray, List.set_cons_zero, List.set_cons_succ]
          have Hfin : Hid (B4Rel w g N i m f (.int .i64 ((k : Int) - 1)) w3) := Lib.hid ⟨k - 1, by omega, by omega, by rw [Int.ofNat_sub (by omega)]; rfl, by
            have := HR3.out
            rw [rot_down' f (by omega) q2] at this
            exact this, HF3.out⟩
          clear b1 b2 b3 b4 t1
          go_wp2_with fail
          go_roundw
          case rel => exact Hfin.out
          case measure => simp [intOf]; omega
        · have hlI : ¬ (i : Int) < k := by omega
          obtain rfl : i = k := by omega
          have Hfin : Hid (SrPost w g N a b f (.returned (.tuple #[])) wr) := Lib.hid ⟨rfl, _, (rot_mv f (a := i) (m := m) (b := m + 1) (by omega) (by omega)).wide h1 (by have := Hm.out; omega), by
            rw [show Srt ltR a b (rot f i m (m + 1)) = Srt ltR a (m + 1) (rot f i m (m + 1)) by rw [Hm.out]]
            exact down_sorted ordR Hs.out h1 h3 Hlo.out Hhi.out, hr, hf⟩
          clear hr hf
          go_wp2_with fail
          go_end0
          exact Hfin.out
end Go.Proofs.YtdmladdpbdcpjaaDoor
namespace Go.Proofs.YtdmladdpbdcpjaaDoor
open Go.RowKit

set_option linter.unusedSimpArgs false

attribute [local go_sem] lt1 lt2 lt3 lt4 lt5 lt6

def B5Rel (w : World) (g N lo hi p : Nat) (f : Nat → FlR) (iv jv : Value) (wr : World) : Prop :=
  ∃ i j : Nat, lo ≤ i ∧ i ≤ j ∧ j ≤ hi ∧ iv = .int .i64 i ∧ jv = .int .i64 j ∧ (∀ c, lo ≤ c → c < i → ltR (f (p - c)) (f c) = false) ∧ (∀ c, j ≤ c → c < hi → ltR (f (p - c)) (f c) = true) ∧ Rw wr g N f ∧ Fr [g] w wr
/-- the search sees a front in order and a back in order -/
theorem half_lo {a m b lo hi p : Nat} {f : Nat → FlR} (sU : Srt ltR a m f) (sV : Srt ltR m b f) (h1 : a ≤ lo) (h2 : hi ≤ m) (h3 : p < b + lo) (h4 : m + hi ≤ p + 1) {c h : Nat} (hc : lo ≤ c) (hch : c ≤ h) (hh : h < hi) (hl : ltR (f (p - h)) (f h) = false) : ltR (f (p - c)) (f c) = false :=
  ordR.trans _ _ _ (sU.le ordR (by omega) hch (by omega)) (ordR.trans _ _ _ hl (sV.le ordR (by omega) (show p - h ≤ p - c by omega) (by omega)))
theorem half_hi {a m b lo hi p : Nat} {f : Nat → FlR} (sU : Srt ltR a m f) (sV : Srt ltR m b f) (h1 : a ≤ lo) (h2 : hi ≤ m) (h3 : p < b + lo) (h4 : m + hi ≤ p + 1) {c h : Nat} (hc : lo ≤ h) (hch : h ≤ c) (hh : c < hi) (hl : ltR (f (p - h)) (f h) = true) : ltR (f (p - c)) (f c) = true := by
  cases h7 : ltR (f (p - c)) (f c) with
  | true => rfl
  | false =>
    rw [half_lo sU sV h1 h2 h3 h4 hc hch hh h7] at hl
    cases hl
def SymAt (n : Nat) : Prop := ∀ (w : World) (g N a m b : Nat) (f : Nat → FlR), b - a < n → Rw w g N f → N ≤ 1048576 → a < m → m < b → b ≤ N → Srt ltR a m f → Srt ltR m b f →
  Calls Tryd.prog 108 #[.slice (some ⟨g, 0, none⟩) N N, .int .i64 (a : Nat), .int .i64 (m : Nat), .int .i64 (b : Nat), CmpV] w (SrPost w g N a b f)
theorem sym_int {n : Nat} (H : SymAt n) (w : World) (g N a m b : Nat) (f : Nat → FlR) {aI mI bI : Int} (ea : aI = a) (em : mI = m) (eb : bI = b) (hn : b - a < n) (hr : Rw w g N f) (hN : N ≤ 1048576) (h1 : a < m) (h2 : m < b) (h3 : b ≤ N) (s1 : Srt ltR a m f) (s2 : Srt ltR m b f) :
  Calls Tryd.prog 108 #[.slice (some ⟨g, 0, none⟩) N N, .int .i64 aI, .int .i64 mI, .int .i64 bI, .func (.func 74) #[] #[]] w (SrPost w g N a b f) := by
  subst ea em eb
  exact H w g N a m b f hn hr hN h1 h2 h3 s1 s2
theorem rotate_at (w : World) (g N a m b : Nat) (f : Nat → FlR) (F : Value) {aI mI bI : Int} (ea : aI = a) (em : mI = m) (eb : bI = b) (hr : Rw w g N f) (hN : N ≤ 1048576) (h1 : a < m) (h2 : m < b) (h3 : b ≤ N) :
    Calls Tryd.prog 116 #[.slice (some ⟨g, 0, none⟩) N N, .int .i64 aI, .int .i64 mI, .int .i64 bI, F] w (SwPost w g N (rot f a m b)) := by
  subst ea em eb
  exact rotate_any w g N a m b f F hr hN h1 h2 h3

set_option maxHeartbeats 8000000 in
set_option maxRecDepth 100000 in
theorem sym_gen1 (w : World) (g N a m b : Nat) (f : Nat → FlR) (IH : SymAt (b - a)) (hr : Rw w g N f) (hN : N ≤ 1048576) (hma : a + 1 < m) (hmb : m + 1 < b) (hb : b ≤ N) (sU : Srt ltR a m f) (sV : Srt ltR m b f) (hc : (a + b) / 2 < m) :
    Calls Tryd.prog 108 #[.slice (some ⟨g, 0, none⟩) N N, .int .i64 (a : Nat), .int .i64 (m : Nat), .int .i64 (b : Nat), CmpV] w (SrPost w g N a b f) := by
  obtain ⟨mid, hmid⟩ : ∃ mid, mid = (a + b) / 2 := ⟨_, rfl⟩
  rw [← hmid] at hc
  have m1 : 2 * mid ≤ a + b := by omega
  have m2 : a + b ≤ 2 * mid + 1 := by omega
  obtain ⟨lo, hlo0⟩ : ∃ lo, lo = mid + m - b := ⟨_, rfl⟩
  obtain ⟨hi, hhi0⟩ : ∃ hi, hi = mid := ⟨_, rfl⟩
  obtain ⟨p, hp⟩ : ∃ p, p = mid + m - 1 := ⟨_, rfl⟩
  have H0 : Hid (B5Rel w g N lo hi p f (.int .i64 ((mid : Int) + m - b)) (.int .i64 (mid : Int)) w) := Lib.hid ⟨lo, hi, by omega, by omega, by omega, (by congr 1; omega), (by congr 1; omega), fun q h1 h2 => absurd h2 (by omega), fun q h1 h2 => absurd h2 (by omega), hr, Fr.refl _ _⟩
  have HC : Hid (∀ s, lo ≤ s → s ≤ hi → (∀ c, lo ≤ c → c < s → ltR (f (p - c)) (f c) = false) → (∀ c, s ≤ c → c < hi → ltR (f (p - c)) (f c) = true) → Cut ltR a mid b s (mid + m - s) (rot f s m (mid + m - s))) := Lib.hid fun s h1 h2 h3 h4 => by
    have := cut_of (s := s) ordR (by omega) (by omega) sU sV (by rw [← hmid, if_pos hc]; omega) (by rw [← hmid, if_pos hc]; omega) (by rw [← hmid, if_pos hc]; intro c x1 x2; have := h3 c (by omega) x2; rw [hp] at this; exact this) (by rw [← hmid, if_pos hc]; intro c x1 x2; have := h4 c x1 (by omega); rw [hp] at this; exact this)
    rw [← hmid] at this
    exact this
  have i1 : a ≤ lo := by omega
  have i2 : hi ≤ m := by omega
  have i3 : p < b + lo := by omega
  have i4 : m + hi ≤ p + 1 := by omega
  have i5 : hi ≤ mid := by omega
  have i6 : lo ≤ hi := by omega
  have ht : ((m : Int) - a == 1) = false := by rw [beq_eq_false_iff_ne]; omega
  have ht2 : ((b : Int) - m == 1) = false := by rw [beq_eq_false_iff_ne]; omega
  have k0 := IntWalk.i64_in ((m : Int) - a) (by omega)
  have k1 := IntWalk.i64_in ((b : Int) - m) (by omega)
  have k2 := IntWalk.i64_in ((a : Int) + b) (by omega)
  have k3 : ((a : Int) + b) / 2 = mid := by omega
  have k4 := IntWalk.i64_in ((mid : Int) + m) (by omega)
  have k5 := IntWalk.i64_in ((mid : Int) + m - b) (by omega)
  have k6 := IntWalk.i64_in ((mid : Int) + m - 1) (by omega)
  have hcI : (mid : Int) < m := by omega
  have HS := Lib.hid (And.intro sU sV)
  have Hp := Lib.hid hp
  clear hr sU sV hmid hlo0 hhi0 hp hc
  unfold CmpV
  go_enter Tryd.func108, Tryd.ntmps108
  go_wp2_with fail
  go_loopw [20, 21] (fun iv jv wr => B5Rel w g N lo hi p f iv jv wr) (fun iv jv _ => (intOf jv).toNat - (intOf iv).toNat)
  case atStart => exact H0.out
  case round =>
    clear H0 ht ht2 k0 k1 k2 k3 k4 k5 k6 hcI
    obtain ⟨i, j, h1, h2, h3, rfl, rfl, hlo, hhi, hr, hf⟩ := hrel
    by_cases hlt : i < j
    · have hlI : (i : Int) < j := by omega
      obtain ⟨h, hh⟩ : ∃ h, h = (i + j) / 2 := ⟨_, rfl⟩
      have g1 : i ≤ h := by omega
      have g2 : h < j := by omega
      have hp := Hp.out
      have k1 := IntWalk.i64_in ((i : Int) + j) (by omega)
      have hI2 : ((i : Int) + j) / 2 = h := by omega
      have b1 : (h : Int) < N := by omega
      have k2 := IntWalk.i64_in ((h : Int) + 1) (by omega)
      have k3 := IntWalk.i64_in ((mid : Int) + m - 1 - h) (by omega)
      have b2 : (mid : Int) + m - 1 - h < N := by omega
      have b3 : (0 : Int) ≤ (mid : Int) + m - 1 - h := by omega
      have b4 : (h : Int) ≤ (mid : Int) + m - 1 := by omega
      have t1 : ((mid : Int) + m - 1 - h).toNat = p - h := by omega
      have Hlo := Lib.hid hlo
      have Hhi := Lib.hid hhi
      obtain ⟨c1, c2⟩ := hr.at_ (i := p - h) (by omega)
      obtain ⟨d1, d2⟩ := hr.at_ (i := h) (by omega)
      obtain ⟨x, hx⟩ : ∃ x, x = f (p - h) := ⟨_, rfl⟩
      obtain ⟨y, hy⟩ : ∃ y, y = f (h) := ⟨_, rfl⟩
      rw [← hx] at c1 c2
      rw [← hy] at d1 d2
      have Hx := Lib.hid hx
      have Hy := Lib.hid hy
      have Hr := Lib.hid hr
      have Hf := Lib.hid hf
      unfold FlR.sl at c2 d2
      have C1 := Lib.hid c1
      have C2 := Lib.hid c2
      have D1 := Lib.hid d1
      have D2 := Lib.hid d2
      clear hx hy hr hf c1 c2 d1 d2
      clear hlo hhi hh hp
      go_wp2_with fail
      with_reducible refine g_mixx [(0, 0), (1, 0), (2, 0), (3, 0), (4, 0), (5, 0), (6, 0), (7, 0), (8, 0), (9, 0), (10, 0), (11, 2), (12, 0), (13, 0)] (fun w' => (w'.cell? ⟨g, (p - h) * 2, none⟩ = some (.string x.nm) ∧ w'.cell? ⟨g, (p - h) * 2 + 1, none⟩ = some (.slice x.ad x.n x.c)) ∧ w'.cell? ⟨g, (h) * 2, none⟩ = some (.string y.nm) ∧ w'.cell? ⟨g, (h) * 2 + 1, none⟩ = some (.slice y.ad y.n y.c)) 0 _ rfl (by kernel_rfl) (by kernel_rfl) ?_ ?_
      · exact ⟨⟨C1.out, C2.out⟩, D1.out, D2.out⟩
      intro OPS HD
      simp only [mixX, nthO, consX]
      iterate 11 ((with_reducible refine x_val (v := ?_) ?_ ?_ ?_); rotate_left; (rintro _ ⟨⟨c1, c2⟩, d1, d2⟩; (try simp only [k1, k3]); go_simp; first | done | rfl | (constructor <;> rfl)); exact ⟨⟨C1.out, C2.out⟩, D1.out, D2.out⟩)
      with_reducible refine x_one ?_
      refine l_call ?_ ((cmp_at _ x y).mono ?_)
      · go_simp
      rintro e w1 ⟨⟨kk, rfl, hk⟩, hb1⟩
      have hb1' : Below wr.heap.size wr w1 := ⟨hb1.os, hb1.tape, hb1.output, hb1.size, hb1.block⟩
      obtain ⟨hr1, hf1⟩ := Hf.out.rw_below Hr.out hb1'
      have hcell := Cells.of_below hb1'
      refine ⟨_, rfl, ?_⟩
      refine x_keep ⟨⟨hcell _ _ C1.out, hcell _ _ C2.out⟩, hcell _ _ D1.out, hcell _ _ D2.out⟩ ?_
      have HH := Lib.hid (And.intro hr1 hf1)
      have C3 := Lib.hid (hcell _ _ C1.out)
      have C4 := Lib.hid (hcell _ _ C2.out)
      have D3 := Lib.hid (hcell _ _ D1.out)
      have D4 := Lib.hid (hcell _ _ D2.out)
      clear hr1 hf1 hcell hb1 hb1' Hr Hf C1 C2 D1 D2
      cases hl : ltR x y with
      | true =>
        rw [hl] at hk
        have hkd := hk.symm
        have Hl := Lib.hid hl
        clear hk hl
        iterate 2 ((with_reducible refine x_val (v := ?_) ?_ ?_ ?_); rotate_left; (rintro _ _; (try simp only [hkd]); go_simp; first | done | rfl | (constructor <;> rfl)); exact ⟨⟨C3.out, C4.out⟩, D3.out, D4.out⟩)
        with_reducible refine x_end ?_
        simp only [Act.put, List.setIfInBounds_toArray, List.set_cons_zero, List.set_cons_succ]
        clear hkd C3 C4 D3 D4
        have hnew : ∀ q, h ≤ q → q < hi → ltR (f (p - q)) (f q) = true := fun q q1 q2 => by
          have h6 := Hl.out
          rw [Hx.out, Hy.out] at h6
          exact half_hi HS.out.1 HS.out.2 i1 i2 i3 i4 (by omega) q1 q2 h6
        have Hfin : Hid (B5Rel w g N lo hi p f (.int .i64 i) (.int .i64 h) w1) := Lib.hid ⟨i, h, h1, g1, by omega, rfl, rfl, Hlo.out, hnew, HH.out.1, HH.out.2⟩
        clear hnew
        go_wp2_with fail
        go_roundw
        case rel => exact Hfin.out
        case measure => simp [intOf]; omega
      | false =>
        rw [hl] at hk
        have hkd := hk.symm
        have Hl := Lib.hid hl
        clear hk hl
        iterate 2 ((with_reducible refine x_val (v := ?_) ?_ ?_ ?_); rotate_left; (rintro _ _; (try simp only [hkd]); go_simp; first | done | rfl | (constructor <;> rfl)); exact ⟨⟨C3.out, C4.out⟩, D3.out, D4.out⟩)
        with_reducible refine x_end ?_
        simp only [Act.put, List.setIfInBounds_toArray, List.set_cons_zero, List.set_cons_succ]
        clear hkd C3 C4 D3 D4
        have hnew : ∀ q, lo ≤ q → q < h + 1 → ltR (f (p - q)) (f q) = false := fun q q1 q2 => by
          have h6 := Hl.out
          rw [Hx.out, Hy.out] at h6
          exact half_lo HS.out.1 HS.out.2 i1 i2 i3 i4 q1 (show q ≤ h by omega) (by omega) h6
        have Hfin : Hid (B5Rel w g N lo hi p f (.int .i64 ((h : Int) + 1)) (.int .i64 j) w1) := Lib.hid ⟨h + 1, j, by omega, by omega, h3, by simp, rfl, hnew, Hhi.out, HH.out.1, HH.out.2⟩
        clear hnew
        go_wp2_with fail
        go_roundw
        case rel => exact Hfin.out
        case measure => simp [intOf]; omega
    · obtain rfl : i = j := by omega
      have hC := HC.out i h1 h3 hlo hhi
      have c1 := hC.h1
      have c2 := hC.h2
      have c3 := hC.h3
      have c4 := hC.h4
      have k1 := IntWalk.i64_in ((mid : Int) + m - i) (by omega)
      obtain ⟨e, he⟩ : ∃ e, e = mid + m - i := ⟨_, rfl⟩
      have k2 : (mid : Int) + m - i = e := by omega
      have e2 : e + i = mid + m := by omega
      have c4e : e ≤ b := by omega
      rw [← he] at hC
      have HCt := Lib.hid hC
      clear hlo hhi hC he HC
      have q1 : i ≤ m := by omega
      have q2 : m ≤ e := by omega
      have Hr := Lib.hid hr
      have Hf := Lib.hid hf
      clear hr hf
      by_cases h3 : (i : Int) < m
      · by_cases h4 : (m : Int) < e
        · go_wp2_with fail
          refine (rotate_at _ g N i m e f _ rfl rfl rfl Hr.out hN (by omega) (by omega) (by omega)).mono ?_
          rintro ee w2 ⟨rfl, r1, g1⟩
          have R1 := Lib.hid (And.intro r1 (Hf.out.trans g1))
          clear r1 g1 Hr Hf
          by_cases h5 : (a : Int) < i
          · by_cases h6 : (i : Int) < mid
            · go_wp2_with fail
              refine (sym_int IH _ g N a i mid (rot f i m e) rfl rfl rfl (by omega) R1.out.1 hN (by omega) (by omega) (by omega) HCt.out.s1 HCt.out.s2).mono ?_
              rintro ee w3 ⟨rfl, f2, m2, t2, r2, g2⟩
              have M2 := Lib.hid m2
              have T2 := Lib.hid t2
              have R2 := Lib.hid (And.intro r2 (R1.out.2.trans g2))
              clear m2 t2 r2 g2 R1
              by_cases h7 : (mid : Int) < e
              · by_cases h8 : (e : Int) < b
                · go_wp2_with fail
                  refine (sym_int IH _ g N mid e b f2 rfl (by omega) rfl (by omega) R2.out.1 hN (by omega) (by omega) hb (HCt.out.right M2.out).1 (HCt.out.right M2.out).2).mono ?_
                  rintro ee w4 ⟨rfl, f3, m3, t3, r3, g3⟩
                  have Hfin : Hid (SrPost w g N a b f (.returned (.tuple #[])) w4) := Lib.hid ⟨rfl, f3, ((rot_mv f (a := i) (m := m) (b := e) q1 q2).wide c1 c4e).trans ((M2.out.wide (Nat.le_refl a) (by omega)).trans (m3.wide (by omega) (Nat.le_refl b))), HCt.out.whole M2.out m3 T2.out t3, r3, R2.out.2.trans g3⟩
                  clear m3 t3 r3 g3
                  go_wp2_with fail
                  all_goals (go_end0; exact Hfin.out)
                · have T3 : Hid (Srt ltR mid b f2) := Lib.hid (by
                      have e7 : e = b := by omega
                      have := (HCt.out.right M2.out).1
                      rw [e7] at this
                      exact this)
                  have Hfin : Hid (SrPost w g N a b f (.returned (.tuple #[])) w3) := Lib.hid ⟨rfl, f2, ((rot_mv f (a := i) (m := m) (b := e) q1 q2).wide c1 c4e).trans (M2.out.wide (Nat.le_refl a) (by omega)), HCt.out.whole M2.out (Mv.refl mid b f2) T2.out T3.out, R2.out.1, R2.out.2⟩
                  go_wp2_with fail
                  all_goals (go_end0; exact Hfin.out)
              · have T3 : Hid (Srt ltR mid b f2) := Lib.hid (by
                    have e7 : e = mid := by omega
                    have := (HCt.out.right M2.out).2
                    rw [e7] at this
                    exact this)
                have Hfin : Hid (SrPost w g N a b f (.returned (.tuple #[])) w3) := Lib.hid ⟨rfl, f2, ((rot_mv f (a := i) (m := m) (b := e) q1 q2).wide c1 c4e).trans (M2.out.wide (Nat.le_refl a) (by omega)), HCt.out.whole M2.out (Mv.refl mid b f2) T2.out T3.out, R2.out.1, R2.out.2⟩
                go_wp2_with fail
                all_goals (go_end0; exact Hfin.out)
            · exfalso
              have e7 : i = mid := by omega
              omega
          · have T2 : Hid (Srt ltR a mid (rot f i m e)) := Lib.hid (by
                have e7 : i = a := by omega
                have := HCt.out.s2
                rw [show Srt ltR a mid (rot f i m e) = Srt ltR i mid (rot f i m e) by rw [e7]]
                exact this)
            have M2 := Lib.hid (Mv.refl a mid (rot f i m e))
            have R2 := R1
            clear R1
            generalize hf2 : rot f i m e = f2 at T2 R2 M2
            have M2 : Hid (Mv a mid (rot f i m e) f2) := Lib.hid (by rw [hf2]; exact Mv.refl _ _ _)
            clear hf2
            by_cases h7 : (mid : Int) < e
            · by_cases h8 : (e : Int) < b
              · go_wp2_with fail
                refine (sym_int IH _ g N mid e b f2 rfl (by omega) rfl (by omega) R2.out.1 hN (by omega) (by omega) hb (HCt.out.right M2.out).1 (HCt.out.right M2.out).2).mono ?_
                rintro ee w4 ⟨rfl, f3, m3, t3, r3, g3⟩
                have Hfin : Hid (SrPost w g N a b f (.returned (.tuple #[])) w4) := Lib.hid ⟨rfl, f3, ((rot_mv f (a := i) (m := m) (b := e) q1 q2).wide c1 c4e).trans ((M2.out.wide (Nat.le_refl a) (by omega)).trans (m3.wide (by omega) (Nat.le_refl b))), HCt.out.whole M2.out m3 T2.out t3, r3, R2.out.2.trans g3⟩
                clear m3 t3 r3 g3
                go_wp2_with fail
                all_goals (go_end0; exact Hfin.out)
              · have T3 : Hid (Srt ltR mid b f2) := Lib.hid (by
                    have e7 : e = b := by omega
                    have := (HCt.out.right M2.out).1
                    rw [e7] at this
                    exact this)
                have Hfin : Hid (SrPost w g N a b f (.returned (.tuple #[])) w2) := Lib.hid ⟨rfl, f2, ((rot_mv f (a := i) (m := m) (b := e) q1 q2).wide c1 c4e).trans (M2.out.wide (Nat.le_refl a) (by omega)), HCt.out.whole M2.out (Mv.refl mid b f2) T2.out T3.out, R2.out.1, R2.out.2⟩
                go_wp2_with fail
                all_goals (go_end0; exact Hfin.out)
            · have T3 : Hid (Srt ltR mid b f2) := Lib.hid (by
                  have e7 : e = mid := by omega
                  have := (HCt.out.right M2.out).2
                  rw [e7] at this
                  exact this)
              have Hfin : Hid (SrPost w g N a b f (.returned (.tuple #[])) w2) := Lib.hid ⟨rfl, f2, ((rot_mv f (a := i) (m := m) (b := e) q1 q2).wide c1 c4e).trans (M2.out.wide (Nat.le_refl a) (by omega)), HCt.out.whole M2.out (Mv.refl mid b f2) T2.out T3.out, R2.out.1, R2.out.2⟩
              go_wp2_with fail
              all_goals (go_end0; exact Hfin.out)
        · have R1 : Hid (Rw wr g N (rot f i m e) ∧ Fr [g] w wr) := Lib.hid ⟨by rw [rot_nil f q1 q2 (by omega)]; exact Hr.out, Hf.out⟩
          clear Hr Hf
          by_cases h5 : (a : Int) < i
          · by_cases h6 : (i : Int) < mid
            · go_wp2_with fail
              refine (sym_int IH _ g N a i mid (rot f i m e) rfl rfl rfl (by omega) R1.out.1 hN (by omega) (by omega) (by omega) HCt.out.s1 HCt.out.s2).mono ?_
              rintro ee w3 ⟨rfl, f2, m2, t2, r2, g2⟩
              have M2 := Lib.hid m2
              have T2 := Lib.hid t2
              have R2 := Lib.hid (And.intro r2 (R1.out.2.trans g2))
              clear m2 t2 r2 g2 R1
              by_cases h7 : (mid : Int) < e
              · by_cases h8 : (e : Int) < b
                · go_wp2_with fail
                  refine (sym_int IH _ g N mid e b f2 rfl (by omega) rfl (by omega) R2.out.1 hN (by omega) (by omega) hb (HCt.out.right M2.out).1 (HCt.out.right M2.out).2).mono ?_
                  rintro ee w4 ⟨rfl, f3, m3, t3, r3, g3⟩
                  have Hfin : Hid (SrPost w g N a b f (.returned (.tuple #[])) w4) := Lib.hid ⟨rfl, f3, ((rot_mv f (a := i) (m := m) (b := e) q1 q2).wide c1 c4e).trans ((M2.out.wide (Nat.le_refl a) (by omega)).trans (m3.wide (by omega) (Nat.le_refl b))), HCt.out.whole M2.out m3 T2.out t3, r3, R2.out.2.trans g3⟩
                  clear m3 t3 r3 g3
                  go_wp2_with fail
                  all_goals (go_end0; exact Hfin.out)
                · have T3 : Hid (Srt ltR mid b f2) := Lib.hid (by
                      have e7 : e = b := by omega
                      have := (HCt.out.right M2.out).1
                      rw [e7] at this
                      exact this)
                  have Hfin : Hid (SrPost w g N a b f (.returned (.tuple #[])) w3) := Lib.hid ⟨rfl, f2, ((rot_mv f (a := i) (m := m) (b := e) q1 q2).wide c1 c4e).trans (M2.out.wide (Nat.le_refl a) (by omega)), HCt.out.whole M2.out (Mv.refl mid b f2) T2.out T3.out, R2.out.1, R2.out.2⟩
                  go_wp2_with fail
                  all_goals (go_end0; exact Hfin.out)
              · have T3 : Hid (Srt ltR mid b f2) := Lib.hid (by
                    have e7 : e = mid := by omega
                    have := (HCt.out.right M2.out).2
                    rw [e7] at this
                    exact this)
                have Hfin : Hid (SrPost w g N a b f (.returned (.tuple #[])) w3) := Lib.hid ⟨rfl, f2, ((rot_mv f (a := i) (m := m) (b := e) q1 q2).wide c1 c4e).trans (M2.out.wide (Nat.le_refl a) (by omega)), HCt.out.whole M2.out (Mv.refl mid b f2) T2.out T3.out, R2.out.1, R2.out.2⟩
                go_wp2_with fail
                all_goals (go_end0; exact Hfin.out)
            · have T2 : Hid (Srt ltR a mid (rot f i m e)) := Lib.hid (by
                  have e7 : i = mid := by omega
                  have := HCt.out.s1
                  rw [show Srt ltR a mid (rot f i m e) = Srt ltR a i (rot f i m e) by rw [e7]]
                  exact this)
              have M2 := Lib.hid (Mv.refl a mid (rot f i m e))
              have R2 := R1
              clear R1
              generalize hf2 : rot f i m e = f2 at T2 R2 M2
              have M2 : Hid (Mv a mid (rot f i m e) f2) := Lib.hid (by rw [hf2]; exact Mv.refl _ _ _)
              clear hf2
              by_cases h7 : (mid : Int) < e
              · by_cases h8 : (e : Int) < b
                · go_wp2_with fail
                  refine (sym_int IH _ g N mid e b f2 rfl (by omega) rfl (by omega) R2.out.1 hN (by omega) (by omega) hb (HCt.out.right M2.out).1 (HCt.out.right M2.out).2).mono ?_
                  rintro ee w4 ⟨rfl, f3, m3, t3, r3, g3⟩
                  have Hfin : Hid (SrPost w g N a b f (.returned (.tuple #[])) w4) := Lib.hid ⟨rfl, f3, ((rot_mv f (a := i) (m := m) (b := e) q1 q2).wide c1 c4e).trans ((M2.out.wide (Nat.le_refl a) (by omega)).trans (m3.wide (by omega) (Nat.le_refl b))), HCt.out.whole M2.out m3 T2.out t3, r3, R2.out.2.trans g3⟩
                  clear m3 t3 r3 g3
                  go_wp2_with fail
                  all_goals (go_end0; exact Hfin.out)
                · have T3 : Hid (Srt ltR mid b f2) := Lib.hid (by
                      have e7 : e = b := by omega
                      have := (HCt.out.right M2.out).1
                      rw [e7] at this
                      exact this)
                  have Hfin : Hid (SrPost w g N a b f (.returned (.tuple #[])) wr) := Lib.hid ⟨rfl, f2, ((rot_mv f (a := i) (m := m) (b := e) q1 q2).wide c1 c4e).trans (M2.out.wide (Nat.le_refl a) (by omega)), HCt.out.whole M2.out (Mv.refl mid b f2) T2.out T3.out, R2.out.1, R2.out.2⟩
                  go_wp2_with fail
                  all_goals (go_end0; exact Hfin.out)
              · have T3 : Hid (Srt ltR mid b f2) := Lib.hid (by
                    have e7 : e = mid := by omega
                    have := (HCt.out.right M2.out).2
                    rw [e7] at this
                    exact this)
                have Hfin : Hid (SrPost w g N a b f (.returned (.tuple #[])) wr) := Lib.hid ⟨rfl, f2, ((rot_mv f (a := i) (m := m) (b := e) q1 q2).wide c1 c4e).trans (M2.out.wide (Nat.le_refl a) (by omega)), HCt.out.whole M2.out (Mv.refl mid b f2) T2.out T3.out, R2.out.1, R2.out.2⟩
                go_wp2_with fail
                all_goals (go_end0; exact Hfin.out)
          · have T2 : Hid (Srt ltR a mid (rot f i m e)) := Lib.hid (by
                have e7 : i = a := by omega
                have := HCt.out.s2
                rw [show Srt ltR a mid (rot f i m e) = Srt ltR i mid (rot f i m e) by rw [e7]]
                exact this)
            have M2 := Lib.hid (Mv.refl a mid (rot f i m e))
            have R2 := R1
            clear R1
            generalize hf2 : rot f i m e = f2 at T2 R2 M2
            have M2 : Hid (Mv a mid (rot f i m e) f2) := Lib.hid (by rw [hf2]; exact Mv.refl _ _ _)
            clear hf2
            by_cases h7 : (mid : Int) < e
            · by_cases h8 : (e : Int) < b
              · go_wp2_with fail
                refine (sym_int IH _ g N mid e b f2 rfl (by omega) rfl (by omega) R2.out.1 hN (by omega) (by omega) hb (HCt.out.right M2.out).1 (HCt.out.right M2.out).2).mono ?_
                rintro ee w4 ⟨rfl, f3, m3, t3, r3, g3⟩
                have Hfin : Hid (SrPost w g N a b f (.returned (.tuple #[])) w4) := Lib.hid ⟨rfl, f3, ((rot_mv f (a := i) (m := m) (b := e) q1 q2).wide c1 c4e).trans ((M2.out.wide (Nat.le_refl a) (by omega)).trans (m3.wide (by omega) (Nat.le_refl b))), HCt.out.whole M2.out m3 T2.out t3, r3, R2.out.2.trans g3⟩
                clear m3 t3 r3 g3
                go_wp2_with fail
                all_goals (go_end0; exact Hfin.out)
              · have T3 : Hid (Srt ltR mid b f2) := Lib.hid (by
                    have e7 : e = b := by omega
                    have := (HCt.out.right M2.out).1
                    rw [e7] at this
                    exact this)
                have Hfin : Hid (SrPost w g N a b f (.returned (.tuple #[])) wr) := Lib.hid ⟨rfl, f2, ((rot_mv f (a := i) (m := m) (b := e) q1 q2).wide c1 c4e).trans (M2.out.wide (Nat.le_refl a) (by omega)), HCt.out.whole M2.out (Mv.refl mid b f2) T2.out T3.out, R2.out.1, R2.out.2⟩
                go_wp2_with fail
                all_goals (go_end0; exact Hfin.out)
            · have T3 : Hid (Srt ltR mid b f2) := Lib.hid (by
                  have e7 : e = mid := by omega
                  have := (HCt.out.right M2.out).2
                  rw [e7] at this
                  exact this)
              have Hfin : Hid (SrPost w g N a b f (.returned (.tuple #[])) wr) := Lib.hid ⟨rfl, f2, ((rot_mv f (a := i) (m := m) (b := e) q1 q2).wide c1 c4e).trans (M2.out.wide (Nat.le_refl a) (by omega)), HCt.out.whole M2.out (Mv.refl mid b f2) T2.out T3.out, R2.out.1, R2.out.2⟩
              go_wp2_with fail
              all_goals (go_end0; exact Hfin.out)
      · have R1 : Hid (Rw wr g N (rot f i m e) ∧ Fr [g] w wr) := Lib.hid ⟨by rw [rot_nil f q1 q2 (by omega)]; exact Hr.out, Hf.out⟩
        clear Hr Hf
        by_cases h5 : (a : Int) < i
        · by_cases h6 : (i : Int) < mid
          · go_wp2_with fail
            refine (sym_int IH _ g N a i mid (rot f i m e) rfl rfl rfl (by omega) R1.out.1 hN (by omega) (by omega) (by omega) HCt.out.s1 HCt.out.s2).mono ?_
            rintro ee w3 ⟨rfl, f2, m2, t2, r2, g2⟩
            have M2 := Lib.hid m2
            have T2 := Lib.hid t2
            have R2 := Lib.hid (And.intro r2 (R1.out.2.trans g2))
            clear m2 t2 r2 g2 R1
            by_cases h7 : (mid : Int) < e
            · by_cases h8 : (e : Int) < b
              · go_wp2_with fail
                refine (sym_int IH _ g N mid e b f2 rfl (by omega) rfl (by omega) R2.out.1 hN (by omega) (by omega) hb (HCt.out.right M2.out).1 (HCt.out.right M2.out).2).mono ?_
                rintro ee w4 ⟨rfl, f3, m3, t3, r3, g3⟩
                have Hfin : Hid (SrPost w g N a b f (.returned (.tuple #[])) w4) := Lib.hid ⟨rfl, f3, ((rot_mv f (a := i) (m := m) (b := e) q1 q2).wide c1 c4e).trans ((M2.out.wide (Nat.le_refl a) (by omega)).trans (m3.wide (by omega) (Nat.le_refl b))), HCt.out.whole M2.out m3 T2.out t3, r3, R2.out.2.trans g3⟩
                clear m3 t3 r3 g3
                go_wp2_with fail
                all_goals (go_end0; exact Hfin.out)
              · have T3 : Hid (Srt ltR mid b f2) := Lib.hid (by
                    have e7 : e = b := by omega
                    have := (HCt.out.right M2.out).1
                    rw [e7] at this
                    exact this)
                have Hfin : Hid (SrPost w g N a b f (.returned (.tuple #[])) w3) := Lib.hid ⟨rfl, f2, ((rot_mv f (a := i) (m := m) (b := e) q1 q2).wide c1 c4e).trans (M2.out.wide (Nat.le_refl a) (by omega)), HCt.out.whole M2.out (Mv.refl mid b f2) T2.out T3.out, R2.out.1, R2.out.2⟩
                go_wp2_with fail
                all_goals (go_end0; exact Hfin.out)
            · have T3 : Hid (Srt ltR mid b f2) := Lib.hid (by
                  have e7 : e = mid := by omega
                  have := (HCt.out.right M2.out).2
                  rw [e7] at this
                  exact this)
              have Hfin : Hid (SrPost w g N a b f (.returned (.tuple #[])) w3) := Lib.hid ⟨rfl, f2, ((rot_mv f (a := i) (m := m) (b := e) q1 q2).wide c1 c4e).trans (M2.out.wide (Nat.le_refl a) (by omega)), HCt.out.whole M2.out (Mv.refl mid b f2) T2.out T3.out, R2.out.1, R2.out.2⟩
              go_wp2_with fail
              all_goals (go_end0; exact Hfin.out)
          · have T2 : Hid (Srt ltR a mid (rot f i m e)) := Lib.hid (by
                have e7 : i = mid := by omega
                have := HCt.out.s1
                rw [show Srt ltR a mid (rot f i m e) = Srt ltR a i (rot f i m e) by rw [e7]]
                exact this)
            have M2 := Lib.hid (Mv.refl a mid (rot f i m e))
            have R2 := R1
            clear R1
            generalize hf2 : rot f i m e = f2 at T2 R2 M2
            have M2 : Hid (Mv a mid (rot f i m e) f2) := Lib.hid (by rw [hf2]; exact Mv.refl _ _ _)
            clear hf2
            by_cases h7 : (mid : Int) < e
            · by_cases h8 : (e : Int) < b
              · go_wp2_with fail
                refine (sym_int IH _ g N mid e b f2 rfl (by omega) rfl (by omega) R2.out.1 hN (by omega) (by omega) hb (HCt.out.right M2.out).1 (HCt.out.right M2.out).2).mono ?_
                rintro ee w4 ⟨rfl, f3, m3, t3, r3, g3⟩
                have Hfin : Hid (SrPost w g N a b f (.returned (.tuple #[])) w4) := Lib.hid ⟨rfl, f3, ((rot_mv f (a := i) (m := m) (b := e) q1 q2).wide c1 c4e).trans ((M2.out.wide (Nat.le_refl a) (by omega)).trans (m3.wide (by omega) (Nat.le_refl b))), HCt.out.whole M2.out m3 T2.out t3, r3, R2.out.2.trans g3⟩
                clear m3 t3 r3 g3
                go_wp2_with fail
                all_goals (go_end0; exact Hfin.out)
              · have T3 : Hid (Srt ltR mid b f2) := Lib.hid (by
                    have e7 : e = b := by omega
                    have := (HCt.out.right M2.out).1
                    rw [e7] at this
                    exact this)
                have Hfin : Hid (SrPost w g N a b f (.returned (.tuple #[])) wr) := Lib.hid ⟨rfl, f2, ((rot_mv f (a := i) (m := m) (b := e) q1 q2).wide c1 c4e).trans (M2.out.wide (Nat.le_refl a) (by omega)), HCt.out.whole M2.out (Mv.refl mid b f2) T2.out T3.out, R2.out.1, R2.out.2⟩
                go_wp2_with fail
                all_goals (go_end0; exact Hfin.out)
            · have T3 : Hid (Srt ltR mid b f2) := Lib.hid (by
                  have e7 : e = mid := by omega
                  have := (HCt.out.right M2.out).2
                  rw [e7] at this
                  exact this)
              have Hfin : Hid (SrPost w g N a b f (.returned (.tuple #[])) wr) := Lib.hid ⟨rfl, f2, ((rot_mv f (a := i) (m := m) (b := e) q1 q2).wide c1 c4e).trans (M2.out.wide (Nat.le_refl a) (by omega)), HCt.out.whole M2.out (Mv.refl mid b f2) T2.out T3.out, R2.out.1, R2.out.2⟩
              go_wp2_with fail
              all_goals (go_end0; exact Hfin.out)
        · have T2 : Hid (Srt ltR a mid (rot f i m e)) := Lib.hid (by
              have e7 : i = a := by omega
              have := HCt.out.s2
              rw [show Srt ltR a mid (rot f i m e) = Srt ltR i mid (rot f i m e) by rw [e7]]
              exact this)
          have M2 := Lib.hid (Mv.refl a mid (rot f i m e))
          have R2 := R1
          clear R1
          generalize hf2 : rot f i m e = f2 at T2 R2 M2
          have M2 : Hid (Mv a mid (rot f i m e) f2) := Lib.hid (by rw [hf2]; exact Mv.refl _ _ _)
          clear hf2
          by_cases h7 : (mid : Int) < e
          · by_cases h8 : (e : Int) < b
            · go_wp2_with fail
              refine (sym_int IH _ g N mid e b f2 rfl (by omega) rfl (by omega) R2.out.1 hN (by omega) (by omega) hb (HCt.out.right M2.out).1 (HCt.out.right M2.out).2).mono ?_
              rintro ee w4 ⟨rfl, f3, m3, t3, r3, g3⟩
              have Hfin : Hid (SrPost w g N a b f (.returned (.tuple #[])) w4) := Lib.hid ⟨rfl, f3, ((rot_mv f (a := i) (m := m) (b := e) q1 q2).wide c1 c4e).trans ((M2.out.wide (Nat.le_refl a) (by omega)).trans (m3.wide (by omega) (Nat.le_refl b))), HCt.out.whole M2.out m3 T2.out t3, r3, R2.out.2.trans g3⟩
              clear m3 t3 r3 g3
              go_wp2_with fail
              all_goals (go_end0; exact Hfin.out)
            · have T3 : Hid (Srt ltR mid b f2) := Lib.hid (by
                  have e7 : e = b := by omega
                  have := (HCt.out.right M2.out).1
                  rw [e7] at this
                  exact this)
              have Hfin : Hid (SrPost w g N a b f (.returned (.tuple #[])) wr) := Lib.hid ⟨rfl, f2, ((rot_mv f (a := i) (m := m) (b := e) q1 q2).wide c1 c4e).trans (M2.out.wide (Nat.le_refl a) (by omega)), HCt.out.whole M2.out (Mv.refl mid b f2) T2.out T3.out, R2.out.1, R2.out.2⟩
              go_wp2_with fail
              all_goals (go_end0; exact Hfin.out)
          · have T3 : Hid (Srt ltR mid b f2) := Lib.hid (by
                have e7 : e = mid := by omega
                have := (HCt.out.right M2.out).2
                rw [e7] at this
                exact this)
            have Hfin : Hid (SrPost w g N a b f (.returned (.tuple #[])) wr) := Lib.hid ⟨rfl, f2, ((rot_mv f (a := i) (m := m) (b := e) q1 q2).wide c1 c4e).trans (M2.out.wide (Nat.le_refl a) (by omega)), HCt.out.whole M2.out (Mv.refl mid b f2) T2.out T3.out, R2.out.1, R2.out.2⟩
            go_wp2_with fail
            all_goals (go_end0; exact Hfin.out)

set_option maxHeartbeats 8000000 in
set_option maxRecDepth 100000 in
theorem sym_gen2 (w : World) (g N a m b : Nat) (f : Nat → FlR) (IH : SymAt (b - a)) (hr : Rw w g N f) (hN : N ≤ 1048576) (hma : a + 1 < m) (hmb : m + 1 < b) (hb : b ≤ N) (sU : Srt ltR a m f) (sV : Srt ltR m b f) (hc : ¬ (a + b) / 2 < m) :
    Calls Tryd.prog 108 #[.slice (some ⟨g, 0, none⟩) N N, .int .i64 (a : Nat), .int .i64 (m : Nat), .int .i64 (b : Nat), CmpV] w (SrPost w g N a b f) := by
  obtain ⟨mid, hmid⟩ : ∃ mid, mid = (a + b) / 2 := ⟨_, rfl⟩
  rw [← hmid] at hc
  have m1 : 2 * mid ≤ a + b := by omega
  have m2 : a + b ≤ 2 * mid + 1 := by omega
  obtain ⟨lo, hlo0⟩ : ∃ lo, lo = a := ⟨_, rfl⟩
  obtain ⟨hi, hhi0⟩ : ∃ hi, hi = m := ⟨_, rfl⟩
  obtain ⟨p, hp⟩ : ∃ p, p = mid + m - 1 := ⟨_, rfl⟩
  have H0 : Hid (B5Rel w g N lo hi p f (.int .i64 ((a : Int))) (.int .i64 (m : Int)) w) := Lib.hid ⟨lo, hi, by omega, by omega, by omega, (by congr 1; omega), (by congr 1; omega), fun q h1 h2 => absurd h2 (by omega), fun q h1 h2 => absurd h2 (by omega), hr, Fr.refl _ _⟩
  have HC : Hid (∀ s, lo ≤ s → s ≤ hi → (∀ c, lo ≤ c → c < s → ltR (f (p - c)) (f c) = false) → (∀ c, s ≤ c → c < hi → ltR (f (p - c)) (f c) = true) → Cut ltR a mid b s (mid + m - s) (rot f s m (mid + m - s))) := Lib.hid fun s h1 h2 h3 h4 => by
    have := cut_of (s := s) ordR (by omega) (by omega) sU sV (by rw [← hmid, if_neg hc]; omega) (by rw [← hmid, if_neg hc]; omega) (by rw [← hmid, if_neg hc]; intro c x1 x2; have := h3 c (by omega) x2; rw [hp] at this; exact this) (by rw [← hmid, if_neg hc]; intro c x1 x2; have := h4 c x1 (by omega); rw [hp] at this; exact this)
    rw [← hmid] at this
    exact this
  have i1 : a ≤ lo := by omega
  have i2 : hi ≤ m := by omega
  have i3 : p < b + lo := by omega
  have i4 : m + hi ≤ p + 1 := by omega
  have i5 : hi ≤ mid := by omega
  have i6 : lo ≤ hi := by omega
  have ht : ((m : Int) - a == 1) = false := by rw [beq_eq_false_iff_ne]; omega
  have ht2 : ((b : Int) - m == 1) = false := by rw [beq_eq_false_iff_ne]; omega
  have k0 := IntWalk.i64_in ((m : Int) - a) (by omega)
  have k1 := IntWalk.i64_in ((b : Int) - m) (by omega)
  have k2 := IntWalk.i64_in ((a : Int) + b) (by omega)
  have k3 : ((a : Int) + b) / 2 = mid := by omega
  have k4 := IntWalk.i64_in ((mid : Int) + m) (by omega)
  have k5 := IntWalk.i64_in ((mid : Int) + m - b) (by omega)
  have k6 := IntWalk.i64_in ((mid : Int) + m - 1) (by omega)
  have hcI : ¬ (mid : Int) < m := by omega
  have HS := Lib.hid (And.intro sU sV)
  have Hp := Lib.hid hp
  clear hr sU sV hmid hlo0 hhi0 hp hc
  unfold CmpV
  go_enter Tryd.func108, Tryd.ntmps108
  go_wp2_with fail
  go_loopw [20, 21] (fun iv jv wr => B5Rel w g N lo hi p f iv jv wr) (fun iv jv _ => (intOf jv).toNat - (intOf iv).toNat)
  case atStart => exact H0.out
  case round =>
    clear H0 ht ht2 k0 k1 k2 k3 k4 k5 k6 hcI
    obtain ⟨i, j, h1, h2, h3, rfl, rfl, hlo, hhi, hr, hf⟩ := hrel
    by_cases hlt : i < j
    · have hlI : (i : Int) < j := by omega
      obtain ⟨h, hh⟩ : ∃ h, h = (i + j) / 2 := ⟨_, rfl⟩
      have g1 : i ≤ h := by omega
      have g2 : h < j := by omega
      have hp := Hp.out
      have k1 := IntWalk.i64_in ((i : Int) + j) (by omega)
      have hI2 : ((i : Int) + j) / 2 = h := by omega
      have b1 : (h : Int) < N := by omega
      have k2 := IntWalk.i64_in ((h : Int) + 1) (by omega)
      have k3 := IntWalk.i64_in ((mid : Int) + m - 1 - h) (by omega)
      have b2 : (mid : Int) + m - 1 - h < N := by omega
      have b3 : (0 : Int) ≤ (mid : Int) + m - 1 - h := by omega
      have b4 : (h : Int) ≤ (mid : Int) + m - 1 := by omega
      have t1 : ((mid : Int) + m - 1 - h).toNat = p - h := by omega
      have Hlo := Lib.hid hlo
      have Hhi := Lib.hid hhi
      obtain ⟨c1, c2⟩ := hr.at_ (i := p - h) (by omega)
      obtain ⟨d1, d2⟩ := hr.at_ (i := h) (by omega)
      obtain ⟨x, hx⟩ : ∃ x, x = f (p - h) := ⟨_, rfl⟩
      obtain ⟨y, hy⟩ : ∃ y, y = f (h) := ⟨_, rfl⟩
      rw [← hx] at c1 c2
      rw [← hy] at d1 d2
      have Hx := Lib.hid hx
      have Hy := Lib.hid hy
      have Hr := Lib.hid hr
      have Hf := Lib.hid hf
      unfold FlR.sl at c2 d2
      have C1 := Lib.hid c1
      have C2 := Lib.hid c2
      have D1 := Lib.hid d1
      have D2 := Lib.hid d2
      clear hx hy hr hf c1 c2 d1 d2
      clear hlo hhi hh hp
      go_wp2_with fail
      with_reducible refine g_mixx [(0, 0), (1, 0), (2, 0), (3, 0), (4, 0), (5, 0), (6, 0), (7, 0), (8, 0), (9, 0), (10, 0), (11, 2), (12, 0), (13, 0)] (fun w' => (w'.cell? ⟨g, (p - h) * 2, none⟩ = some (.string x.nm) ∧ w'.cell? ⟨g, (p - h) * 2 + 1, none⟩ = some (.slice x.ad x.n x.c)) ∧ w'.cell? ⟨g, (h) * 2, none⟩ = some (.string y.nm) ∧ w'.cell? ⟨g, (h) * 2 + 1, none⟩ = some (.slice y.ad y.n y.c)) 0 _ rfl (by kernel_rfl) (by kernel_rfl) ?_ ?_
      · exact ⟨⟨C1.out, C2.out⟩, D1.out, D2.out⟩
      intro OPS HD
      simp only [mixX, nthO, consX]
      iterate 11 ((with_reducible refine x_val (v := ?_) ?_ ?_ ?_); rotate_left; (rintro _ ⟨⟨c1, c2⟩, d1, d2⟩; (try simp only [k1, k3]); go_simp; first | done | rfl | (constructor <;> rfl)); exact ⟨⟨C1.out, C2.out⟩, D1.out, D2.out⟩)
      with_reducible refine x_one ?_
      refine l_call ?_ ((cmp_at _ x y).mono ?_)
      · go_simp
      rintro e w1 ⟨⟨kk, rfl, hk⟩, hb1⟩
      have hb1' : Below wr.heap.size wr w1 := ⟨hb1.os, hb1.tape, hb1.output, hb1.size, hb1.block⟩
      obtain ⟨hr1, hf1⟩ := Hf.out.rw_below Hr.out hb1'
      have hcell := Cells.of_below hb1'
      refine ⟨_, rfl, ?_⟩
      refine x_keep ⟨⟨hcell _ _ C1.out, hcell _ _ C2.out⟩, hcell _ _ D1.out, hcell _ _ D2.out⟩ ?_
      have HH := Lib.hid (And.intro hr1 hf1)
      have C3 := Lib.hid (hcell _ _ C1.out)
      have C4 := Lib.hid (hcell _ _ C2.out)
      have D3 := Lib.hid (hcell _ _ D1.out)
      have D4 := Lib.hid (hcell _ _ D2.out)
      clear hr1 hf1 hcell hb1 hb1' Hr Hf C1 C2 D1 D2
      cases hl : ltR x y with
      | true =>
        rw [hl] at hk
        have hkd := hk.symm
        have Hl := Lib.hid hl
        clear hk hl
        iterate 2 ((with_reducible refine x_val (v := ?_) ?_ ?_ ?_); rotate_left; (rintro _ _; (try simp only [hkd]); go_simp; first | done | rfl | (constructor <;> rfl)); exact ⟨⟨C3.out, C4.out⟩, D3.out, D4.out⟩)
        with_reducible refine x_end ?_
        simp only [Act.put, List.setIfInBounds_toArray, List.set_cons_zero, List.set_cons_succ]
        clear hkd C3 C4 D3 D4
        have hnew : ∀ q, h ≤ q → q < hi → ltR (f (p - q)) (f q) = true := fun q q1 q2 => by
          have h6 := Hl.out
          rw [Hx.out, Hy.out] at h6
          exact half_hi HS.out.1 HS.out.2 i1 i2 i3 i4 (by omega) q1 q2 h6
        have Hfin : Hid (B5Rel w g N lo hi p f (.int .i64 i) (.int .i64 h) w1) := Lib.hid ⟨i, h, h1, g1, by omega, rfl, rfl, Hlo.out, hnew, HH.out.1, HH.out.2⟩
        clear hnew
        go_wp2_with fail
        go_roundw
        case rel => exact Hfin.out
        case measure => simp [intOf]; omega
      | false =>
        rw [hl] at hk
        have hkd := hk.symm
        have Hl := Lib.hid hl
        clear hk hl
        iterate 2 ((with_reducible refine x_val (v := ?_) ?_ ?_ ?_); rotate_left; (rintro _ _; (try simp only [hkd]); go_simp; first | done | rfl | (constructor <;> rfl)); exact ⟨⟨C3.out, C4.out⟩, D3.out, D4.out⟩)
        with_reducible refine x_end ?_
        simp only [Act.put, List.setIfInBounds_toArray, List.set_cons_zero, List.set_cons_succ]
        clear hkd C3 C4 D3 D4
        have hnew : ∀ q, lo ≤ q → q < h + 1 → ltR (f (p - q)) (f q) = false := fun q q1 q2 => by
          have h6 := Hl.out
          rw [Hx.out, Hy.out] at h6
          exact half_lo HS.out.1 HS.out.2 i1 i2 i3 i4 q1 (show q ≤ h by omega) (by omega) h6
        have Hfin : Hid (B5Rel w g N lo hi p f (.int .i64 ((h : Int) + 1)) (.int .i64 j) w1) := Lib.hid ⟨h + 1, j, by omega, by omega, h3, by simp, rfl, hnew, Hhi.out, HH.out.1, HH.out.2⟩
        clear hnew
        go_wp2_with fail
        go_roundw
        case rel => exact Hfin.out
        case measure => simp [intOf]; omega
    · obtain rfl : i = j := by omega
      have hC := HC.out i h1 h3 hlo hhi
      have c1 := hC.h1
      have c2 := hC.h2
      have c3 := hC.h3
      have c4 := hC.h4
      have k1 := IntWalk.i64_in ((mid : Int) + m - i) (by omega)
      obtain ⟨e, he⟩ : ∃ e, e = mid + m - i := ⟨_, rfl⟩
      have k2 : (mid : Int) + m - i = e := by omega
      have e2 : e + i = mid + m := by omega
      have c4e : e ≤ b := by omega
      rw [← he] at hC
      have HCt := Lib.hid hC
      clear hlo hhi hC he HC
      have q1 : i ≤ m := by omega
      have q2 : m ≤ e := by omega
      have Hr := Lib.hid hr
      have Hf := Lib.hid hf
      clear hr hf
      by_cases h3 : (i : Int) < m
      · by_cases h4 : (m : Int) < e
        · go_wp2_with fail
          refine (rotate_at _ g N i m e f _ rfl rfl rfl Hr.out hN (by omega) (by omega) (by omega)).mono ?_
          rintro ee w2 ⟨rfl, r1, g1⟩
          have R1 := Lib.hid (And.intro r1 (Hf.out.trans g1))
          clear r1 g1 Hr Hf
          by_cases h5 : (a : Int) < i
          · by_cases h6 : (i : Int) < mid
            · go_wp2_with fail
              refine (sym_int IH _ g N a i mid (rot f i m e) rfl rfl rfl (by omega) R1.out.1 hN (by omega) (by omega) (by omega) HCt.out.s1 HCt.out.s2).mono ?_
              rintro ee w3 ⟨rfl, f2, m2, t2, r2, g2⟩
              have M2 := Lib.hid m2
              have T2 := Lib.hid t2
              have R2 := Lib.hid (And.intro r2 (R1.out.2.trans g2))
              clear m2 t2 r2 g2 R1
              by_cases h7 : (mid : Int) < e
              · by_cases h8 : (e : Int) < b
                · go_wp2_with fail
                  refine (sym_int IH _ g N mid e b f2 rfl (by omega) rfl (by omega) R2.out.1 hN (by omega) (by omega) hb (HCt.out.right M2.out).1 (HCt.out.right M2.out).2).mono ?_
                  rintro ee w4 ⟨rfl, f3, m3, t3, r3, g3⟩
                  have Hfin : Hid (SrPost w g N a b f (.returned (.tuple #[])) w4) := Lib.hid ⟨rfl, f3, ((rot_mv f (a := i) (m := m) (b := e) q1 q2).wide c1 c4e).trans ((M2.out.wide (Nat.le_refl a) (by omega)).trans (m3.wide (by omega) (Nat.le_refl b))), HCt.out.whole M2.out m3 T2.out t3, r3, R2.out.2.trans g3⟩
                  clear m3 t3 r3 g3
                  go_wp2_with fail
                  all_goals (go_end0; exact Hfin.out)
                · have T3 : Hid (Srt ltR mid b f2) := Lib.hid (by
                      have e7 : e = b := by omega
                      have := (HCt.out.right M2.out).1
                      rw [e7] at this
                      exact this)
                  have Hfin : Hid (SrPost w g N a b f (.returned (.tuple #[])) w3) := Lib.hid ⟨rfl, f2, ((rot_mv f (a := i) (m := m) (b := e) q1 q2).wide c1 c4e).trans (M2.out.wide (Nat.le_refl a) (by omega)), HCt.out.whole M2.out (Mv.refl mid b f2) T2.out T3.out, R2.out.1, R2.out.2⟩
                  go_wp2_with fail
                  all_goals (go_end0; exact Hfin.out)
              · have T3 : Hid (Srt ltR mid b f2) := Lib.hid (by
                    have e7 : e = mid := by omega
                    have := (HCt.out.right M2.out).2
                    rw [e7] at this
                    exact this)
                have Hfin : Hid (SrPost w g N a b f (.returned (.tuple #[])) w3) := Lib.hid ⟨rfl, f2, ((rot_mv f (a := i) (m := m) (b := e) q1 q2).wide c1 c4e).trans (M2.out.wide (Nat.le_refl a) (by omega)), HCt.out.whole M2.out (Mv.refl mid b f2) T2.out T3.out, R2.out.1, R2.out.2⟩
                go_wp2_with fail
                all_goals (go_end0; exact Hfin.out)
            · exfalso
              have e7 : i = mid := by omega
              omega
          · have T2 : Hid (Srt ltR a mid (rot f i m e)) := Lib.hid (by
                have e7 : i = a := by omega
                have := HCt.out.s2
                rw [show Srt ltR a mid (rot f i m e) = Srt ltR i mid (rot f i m e) by rw [e7]]
                exact this)
            have M2 := Lib.hid (Mv.refl a mid (rot f i m e))
            have R2 := R1
            clear R1
            generalize hf2 : rot f i m e = f2 at T2 R2 M2
            have M2 : Hid (Mv a mid (rot f i m e) f2) := Lib.hid (by rw [hf2]; exact Mv.refl _ _ _)
            clear hf2
            by_cases h7 : (mid : Int) < e
            · by_cases h8 : (e : Int) < b
              · go_wp2_with fail
                refine (sym_int IH _ g N mid e b f2 rfl (by omega) rfl (by omega) R2.out.1 hN (by omega) (by omega) hb (HCt.out.right M2.out).1 (HCt.out.right M2.out).2).mono ?_
                rintro ee w4 ⟨rfl, f3, m3, t3, r3, g3⟩
                have Hfin : Hid (SrPost w g N a b f (.returned (.tuple #[])) w4) := Lib.hid ⟨rfl, f3, ((rot_mv f (a := i) (m := m) (b := e) q1 q2).wide c1 c4e).trans ((M2.out.wide (Nat.le_refl a) (by omega)).trans (m3.wide (by omega) (Nat.le_refl b))), HCt.out.whole M2.out m3 T2.out t3, r3, R2.out.2.trans g3⟩
                clear m3 t3 r3 g3
                go_wp2_with fail
                all_goals (go_end0; exact Hfin.out)
              · have T3 : Hid (Srt ltR mid b f2) := Lib.hid (by
                    have e7 : e = b := by omega
                    have := (HCt.out.right M2.out).1
                    rw [e7] at this
                    exact this)
                have Hfin : Hid (SrPost w g N a b f (.returned (.tuple #[])) w2) := Lib.hid ⟨rfl, f2, ((rot_mv f (a := i) (m := m) (b := e) q1 q2).wide c1 c4e).trans (M2.out.wide (Nat.le_refl a) (by omega)), HCt.out.whole M2.out (Mv.refl mid b f2) T2.out T3.out, R2.out.1, R2.out.2⟩
                go_wp2_with fail
                all_goals (go_end0; exact Hfin.out)
            · have T3 : Hid (Srt ltR mid b f2) := Lib.hid (by
                  have e7 : e = mid := by omega
                  have := (HCt.out.right M2.out).2
                  rw [e7] at this
                  exact this)
              have Hfin : Hid (SrPost w g N a b f (.returned (.tuple #[])) w2) := Lib.hid ⟨rfl, f2, ((rot_mv f (a := i) (m := m) (b := e) q1 q2).wide c1 c4e).trans (M2.out.wide (Nat.le_refl a) (by omega)), HCt.out.whole M2.out (Mv.refl mid b f2) T2.out T3.out, R2.out.1, R2.out.2⟩
              go_wp2_with fail
              all_goals (go_end0; exact Hfin.out)
        · have R1 : Hid (Rw wr g N (rot f i m e) ∧ Fr [g] w wr) := Lib.hid ⟨by rw [rot_nil f q1 q2 (by omega)]; exact Hr.out, Hf.out⟩
          clear Hr Hf
          by_cases h5 : (a : Int) < i
          · by_cases h6 : (i : Int) < mid
            · go_wp2_with fail
              refine (sym_int IH _ g N a i mid (rot f i m e) rfl rfl rfl (by omega) R1.out.1 hN (by omega) (by omega) (by omega) HCt.out.s1 HCt.out.s2).mono ?_
              rintro ee w3 ⟨rfl, f2, m2, t2, r2, g2⟩
              have M2 := Lib.hid m2
              have T2 := Lib.hid t2
              have R2 := Lib.hid (And.intro r2 (R1.out.2.trans g2))
              clear m2 t2 r2 g2 R1
              by_cases h7 : (mid : Int) < e
              · by_cases h8 : (e : Int) < b
                · go_wp2_with fail
                  refine (sym_int IH _ g N mid e b f2 rfl (by omega) rfl (by omega) R2.out.1 hN (by omega) (by omega) hb (HCt.out.right M2.out).1 (HCt.out.right M2.out).2).mono ?_
                  rintro ee w4 ⟨rfl, f3, m3, t3, r3, g3⟩
                  have Hfin : Hid (SrPost w g N a b f (.returned (.tuple #[])) w4) := Lib.hid ⟨rfl, f3, ((rot_mv f (a := i) (m := m) (b := e) q1 q2).wide c1 c4e).trans ((M2.out.wide (Nat.le_refl a) (by omega)).trans (m3.wide (by omega) (Nat.le_refl b))), HCt.out.whole M2.out m3 T2.out t3, r3, R2.out.2.trans g3⟩
                  clear m3 t3 r3 g3
                  go_wp2_with fail
                  all_goals (go_end0; exact Hfin.out)
                · have T3 : Hid (Srt ltR mid b f2) := Lib.hid (by
                      have e7 : e = b := by omega
                      have := (HCt.out.right M2.out).1
                      rw [e7] at this
                      exact this)
                  have Hfin : Hid (SrPost w g N a b f (.returned (.tuple #[])) w3) := Lib.hid ⟨rfl, f2, ((rot_mv f (a := i) (m := m) (b := e) q1 q2).wide c1 c4e).trans (M2.out.wide (Nat.le_refl a) (by omega)), HCt.out.whole M2.out (Mv.refl mid b f2) T2.out T3.out, R2.out.1, R2.out.2⟩
                  go_wp2_with fail
                  all_goals (go_end0; exact Hfin.out)
              · have T3 : Hid (Srt ltR mid b f2) := Lib.hid (by
                    have e7 : e = mid := by omega
                    have := (HCt.out.right M2.out).2
                    rw [e7] at this
                    exact this)
                have Hfin : Hid (SrPost w g N a b f (.returned (.tuple #[])) w3) := Lib.hid ⟨rfl, f2, ((rot_mv f (a := i) (m := m) (b := e) q1 q2).wide c1 c4e).trans (M2.out.wide (Nat.le_refl a) (by omega)), HCt.out.whole M2.out (Mv.refl mid b f2) T2.out T3.out, R2.out.1, R2.out.2⟩
                go_wp2_with fail
                all_goals (go_end0; exact Hfin.out)
            · have T2 : Hid (Srt ltR a mid (rot f i m e)) := Lib.hid (by
                  have e7 : i = mid := by omega
                  have := HCt.out.s1
                  rw [show Srt ltR a mid (rot f i m e) = Srt ltR a i (rot f i m e) by rw [e7]]
                  exact this)
              have M2 := Lib.hid (Mv.refl a mid (rot f i m e))
              have R2 := R1
              clear R1
              generalize hf2 : rot f i m e = f2 at T2 R2 M2
              have M2 : Hid (Mv a mid (rot f i m e) f2) := Lib.hid (by rw [hf2]; exact Mv.refl _ _ _)
              clear hf2
              by_cases h7 : (mid : Int) < e
              · by_cases h8 : (e : Int) < b
                · go_wp2_with fail
                  refine (sym_int IH _ g N mid e b f2 rfl (by omega) rfl (by omega) R2.out.1 hN (by omega) (by omega) hb (HCt.out.right M2.out).1 (HCt.out.right M2.out).2).mono ?_
                  rintro ee w4 ⟨rfl, f3, m3, t3, r3, g3⟩
                  have Hfin : Hid (SrPost w g N a b f (.returned (.tuple #[])) w4) := Lib.hid ⟨rfl, f3, ((rot_mv f (a := i) (m := m) (b := e) q1 q2).wide c1 c4e).trans ((M2.out.wide (Nat.le_refl a) (by omega)).trans (m3.wide (by omega) (Nat.le_refl b))), HCt.out.whole M2.out m3 T2.out t3, r3, R2.out.2.trans g3⟩
                  clear m3 t3 r3 g3
                  go_wp2_with fail
                  all_goals (go_end0; exact Hfin.out)
                · have T3 : Hid (Srt ltR mid b f2) := Lib.hid (by
                      have e7 : e = b := by omega
                      have := (HCt.out.right M2.out).1
                      rw [e7] at this
                      exact this)
                  have Hfin : Hid (SrPost w g N a b f (.returned (.tuple #[])) wr) := Lib.hid ⟨rfl, f2, ((rot_mv f (a := i) (m := m) (b := e) q1 q2).wide c1 c4e).trans (M2.out.wide (Nat.le_refl a) (by omega)), HCt.out.whole M2.out (Mv.refl mid b f2) T2.out T3.out, R2.out.1, R2.out.2⟩
                  go_wp2_with fail
                  all_goals (go_end0; exact Hfin.out)
              · have T3 : Hid (Srt ltR mid b f2) := Lib.hid (by
                    have e7 : e = mid := by omega
                    have := (HCt.out.right M2.out).2
                    rw [e7] at this
                    exact this)
                have Hfin : Hid (SrPost w g N a b f (.returned (.tuple #[])) wr) := Lib.hid ⟨rfl, f2, ((rot_mv f (a := i) (m := m) (b := e) q1 q2).wide c1 c4e).trans (M2.out.wide (Nat.le_refl a) (by omega)), HCt.out.whole M2.out (Mv.refl mid b f2) T2.out T3.out, R2.out.1, R2.out.2⟩
                go_wp2_with fail
                all_goals (go_end0; exact Hfin.out)
          · have T2 : Hid (Srt ltR a mid (rot f i m e)) := Lib.hid (by
                have e7 : i = a := by omega
                have := HCt.out.s2
                rw [show Srt ltR a mid (rot f i m e) = Srt ltR i mid (rot f i m e) by rw [e7]]
                exact this)
            have M2 := Lib.hid (Mv.refl a mid (rot f i m e))
            have R2 := R1
            clear R1
            generalize hf2 : rot f i m e = f2 at T2 R2 M2
            have M2 : Hid (Mv a mid (rot f i m e) f2) := Lib.hid (by rw [hf2]; exact Mv.refl _ _ _)
            clear hf2
            by_cases h7 : (mid : Int) < e
            · by_cases h8 : (e : Int) < b
              · go_wp2_with fail
                refine (sym_int IH _ g N mid e b f2 rfl (by omega) rfl (by omega) R2.out.1 hN (by omega) (by omega) hb (HCt.out.right M2.out).1 (HCt.out.right M2.out).2).mono ?_
                rintro ee w4 ⟨rfl, f3, m3, t3, r3, g3⟩
                have Hfin : Hid (SrPost w g N a b f (.returned (.tuple #[])) w4) := Lib.hid ⟨rfl, f3, ((rot_mv f (a := i) (m := m) (b := e) q1 q2).wide c1 c4e).trans ((M2.out.wide (Nat.le_refl a) (by omega)).trans (m3.wide (by omega) (Nat.le_refl b))), HCt.out.whole M2.out m3 T2.out t3, r3, R2.out.2.trans g3⟩
                clear m3 t3 r3 g3
                go_wp2_with fail
                all_goals (go_end0; exact Hfin.out)
              · have T3 : Hid (Srt ltR mid b f2) := Lib.hid (by
                    have e7 : e = b := by omega
                    have := (HCt.out.right M2.out).1
                    rw [e7] at this
                    exact this)
                have Hfin : Hid (SrPost w g N a b f (.returned (.tuple #[])) wr) := Lib.hid ⟨rfl, f2, ((rot_mv f (a := i) (m := m) (b := e) q1 q2).wide c1 c4e).trans (M2.out.wide (Nat.le_refl a) (by omega)), HCt.out.whole M2.out (Mv.refl mid b f2) T2.out T3.out, R2.out.1, R2.out.2⟩
                go_wp2_with fail
                all_goals (go_end0; exact Hfin.out)
            · have T3 : Hid (Srt ltR mid b f2) := Lib.hid (by
                  have e7 : e = mid := by omega
                  have := (HCt.out.right M2.out).2
                  rw [e7] at this
                  exact this)
              have Hfin : Hid (SrPost w g N a b f (.returned (.tuple #[])) wr) := Lib.hid ⟨rfl, f2, ((rot_mv f (a := i) (m := m) (b := e) q1 q2).wide c1 c4e).trans (M2.out.wide (Nat.le_refl a) (by omega)), HCt.out.whole M2.out (Mv.refl mid b f2) T2.out T3.out, R2.out.1, R2.out.2⟩
              go_wp2_with fail
              all_goals (go_end0; exact Hfin.out)
      · have R1 : Hid (Rw wr g N (rot f i m e) ∧ Fr [g] w wr) := Lib.hid ⟨by rw [rot_nil f q1 q2 (by omega)]; exact Hr.out, Hf.out⟩
        clear Hr Hf
        by_cases h5 : (a : Int) < i
        · by_cases h6 : (i : Int) < mid
          · go_wp2_with fail
            refine (sym_int IH _ g N a i mid (rot f i m e) rfl rfl rfl (by omega) R1.out.1 hN (by omega) (by omega) (by omega) HCt.out.s1 HCt.out.s2).mono ?_
            rintro ee w3 ⟨rfl, f2, m2, t2, r2, g2⟩
            have M2 := Lib.hid m2
            have T2 := Lib.hid t2
            have R2 := Lib.hid (And.intro r2 (R1.out.2.trans g2))
            clear m2 t2 r2 g2 R1
            by_cases h7 : (mid : Int) < e
            · by_cases h8 : (e : Int) < b
              · go_wp2_with fail
                refine (sym_int IH _ g N mid e b f2 rfl (by omega) rfl (by omega) R2.out.1 hN (by omega) (by omega) hb (HCt.out.right M2.out).1 (HCt.out.right M2.out).2).mono ?_
                rintro ee w4 ⟨rfl, f3, m3, t3, r3, g3⟩
                have Hfin : Hid (SrPost w g N a b f (.returned (.tuple #[])) w4) := Lib.hid ⟨rfl, f3, ((rot_mv f (a := i) (m := m) (b := e) q1 q2).wide c1 c4e).trans ((M2.out.wide (Nat.le_refl a) (by omega)).trans (m3.wide (by omega) (Nat.le_refl b))), HCt.out.whole M2.out m3 T2.out t3, r3, R2.out.2.trans g3⟩
                clear m3 t3 r3 g3
                go_wp2_with fail
                all_goals (go_end0; exact Hfin.out)
              · have T3 : Hid (Srt ltR mid b f2) := Lib.hid (by
                    have e7 : e = b := by omega
                    have := (HCt.out.right M2.out).1
                    rw [e7] at this
                    exact this)
                have Hfin : Hid (SrPost w g N a b f (.returned (.tuple #[])) w3) := Lib.hid ⟨rfl, f2, ((rot_mv f (a := i) (m := m) (b := e) q1 q2).wide c1 c4e).trans (M2.out.wide (Nat.le_refl a) (by omega)), HCt.out.whole M2.out (Mv.refl mid b f2) T2.out T3.out, R2.out.1, R2.out.2⟩
                go_wp2_with fail
                all_goals (go_end0; exact Hfin.out)
            · have T3 : Hid (Srt ltR mid b f2) := Lib.hid (by
                  have e7 : e = mid := by omega
                  have := (HCt.out.right M2.out).2
                  rw [e7] at this
                  exact this)
              have Hfin : Hid (SrPost w g N a b f (.returned (.tuple #[])) w3) := Lib.hid ⟨rfl, f2, ((rot_mv f (a := i) (m := m) (b := e) q1 q2).wide c1 c4e).trans (M2.out.wide (Nat.le_refl a) (by omega)), HCt.out.whole M2.out (Mv.refl mid b f2) T2.out T3.out, R2.out.1, R2.out.2⟩
              go_wp2_with fail
              all_goals (go_end0; exact Hfin.out)
          · have T2 : Hid (Srt ltR a mid (rot f i m e)) := Lib.hid (by
                have e7 : i = mid := by omega
                have := HCt.out.s1
                rw [show Srt ltR a mid (rot f i m e) = Srt ltR a i (rot f i m e) by rw [e7]]
                exact this)
            have M2 := Lib.hid (Mv.refl a mid (rot f i m e))
            have R2 := R1
            clear R1
            generalize hf2 : rot f i m e = f2 at T2 R2 M2
            have M2 : Hid (Mv a mid (rot f i m e) f2) := Lib.hid (by rw [hf2]; exact Mv.refl _ _ _)
            clear hf2
            by_cases h7 : (mid : Int) < e
            · by_cases h8 : (e : Int) < b
              · go_wp2_with fail
                refine (sym_int IH _ g N mid e b f2 rfl (by omega) rfl (by omega) R2.out.1 hN (by omega) (by omega) hb (HCt.out.right M2.out).1 (HCt.out.right M2.out).2).mono ?_
                rintro ee w4 ⟨rfl, f3, m3, t3, r3, g3⟩
                have Hfin : Hid (SrPost w g N a b f (.returned (.tuple #[])) w4) := Lib.hid ⟨rfl, f3, ((rot_mv f (a := i) (m := m) (b := e) q1 q2).wide c1 c4e).trans ((M2.out.wide (Nat.le_refl a) (by omega)).trans (m3.wide (by omega) (Nat.le_refl b))), HCt.out.whole M2.out m3 T2.out t3, r3, R2.out.2.trans g3⟩
                clear m3 t3 r3 g3
                go_wp2_with fail
                all_goals (go_end0; exact Hfin.out)
              · have T3 : Hid (Srt ltR mid b f2) := Lib.hid (by
                    have e7 : e = b := by omega
                    have := (HCt.out.right M2.out).1
                    rw [e7] at this
                    exact this)
                have Hfin : Hid (SrPost w g N a b f (.returned (.tuple #[])) wr) := Lib.hid ⟨rfl, f2, ((rot_mv f (a := i) (m := m) (b := e) q1 q2).wide c1 c4e).trans (M2.out.wide (Nat.le_refl a) (by omega)), HCt.out.whole M2.out (Mv.refl mid b f2) T2.out T3.out, R2.out.1, R2.out.2⟩
                go_wp2_with fail
                all_goals (go_end0; exact Hfin.out)
            · have T3 : Hid (Srt ltR mid b f2) := Lib.hid (by
                  have e7 : e = mid := by omega
                  have := (HCt.out.right M2.out).2
                  rw [e7] at this
                  exact this)
              have Hfin : Hid (SrPost w g N a b f (.returned (.tuple #[])) wr) := Lib.hid ⟨rfl, f2, ((rot_mv f (a := i) (m := m) (b := e) q1 q2).wide c1 c4e).trans (M2.out.wide (Nat.le_refl a) (by omega)), HCt.out.whole M2.out (Mv.refl mid b f2) T2.out T3.out, R2.out.1, R2.out.2⟩
              go_wp2_with fail
              all_goals (go_end0; exact Hfin.out)
        · have T2 : Hid (Srt ltR a mid (rot f i m e)) := Lib.hid (by
              have e7 : i = a := by omega
              have := HCt.out.s2
              rw [show Srt ltR a mid (rot f i m e) = Srt ltR i mid (rot f i m e) by rw [e7]]
              exact this)
          have M2 := Lib.hid (Mv.refl a mid (rot f i m e))
          have R2 := R1
          clear R1
          generalize hf2 : rot f i m e = f2 at T2 R2 M2
          have M2 : Hid (Mv a mid (rot f i m e) f2) := Lib.hid (by rw [hf2]; exact Mv.refl _ _ _)
          clear hf2
          by_cases h7 : (mid : Int) < e
          · by_cases h8 : (e : Int) < b
            · go_wp2_with fail
              refine (sym_int IH _ g N mid e b f2 rfl (by omega) rfl (by omega) R2.out.1 hN (by omega) (by omega) hb (HCt.out.right M2.out).1 (HCt.out.right M2.out).2).mono ?_
              rintro ee w4 ⟨rfl, f3, m3, t3, r3, g3⟩
              have Hfin : Hid (SrPost w g N a b f (.returned (.tuple #[])) w4) := Lib.hid ⟨rfl, f3, ((rot_mv f (a := i) (m := m) (b := e) q1 q2).wide c1 c4e).trans ((M2.out.wide (Nat.le_refl a) (by omega)).trans (m3.wide (by omega) (Nat.le_refl b))), HCt.out.whole M2.out m3 T2.out t3, r3, R2.out.2.trans g3⟩
              clear m3 t3 r3 g3
              go_wp2_with fail
              all_goals (go_end0; exact Hfin.out)
            · have T3 : Hid (Srt ltR mid b f2) := Lib.hid (by
                  have e7 : e = b := by omega
                  have := (HCt.out.right M2.out).1
                  rw [e7] at this
                  exact this)
              have Hfin : Hid (SrPost w g N a b f (.returned (.tuple #[])) wr) := Lib.hid ⟨rfl, f2, ((rot_mv f (a := i) (m := m) (b := e) q1 q2).wide c1 c4e).trans (M2.out.wide (Nat.le_refl a) (by omega)), HCt.out.whole M2.out (Mv.refl mid b f2) T2.out T3.out, R2.out.1, R2.out.2⟩
              go_wp2_with fail
              all_goals (go_end0; exact Hfin.out)
          · have T3 : Hid (Srt ltR mid b f2) := Lib.hid (by
                have e7 : e = mid := by omega
                have := (HCt.out.right M2.out).2
                rw [e7] at this
                exact this)
            have Hfin : Hid (SrPost w g N a b f (.returned (.tuple #[])) wr) := Lib.hid ⟨rfl, f2, ((rot_mv f (a := i) (m := m) (b := e) q1 q2).wide c1 c4e).trans (M2.out.wide (Nat.le_refl a) (by omega)), HCt.out.whole M2.out (Mv.refl mid b f2) T2.out T3.out, R2.out.1, R2.out.2⟩
            go_wp2_with fail
            all_goals (go_end0; exact Hfin.out)
theorem sym_all (n : Nat) : SymAt n := by
  induction n with
  | zero => intro w g N a m b f h; omega
  | succ n ih =>
    intro w g N a m b f hn hr hN h1 h2 h3 sU sV
    by_cases e1 : m = a + 1
    · exact sym_up w g N a m b f hr hN e1 h2 h3 sV
    · by_cases e2 : b = m + 1
      · exact sym_down w g N a m b f hr hN e2 (by omega) h3 sU
      · have IH : SymAt (b - a) := fun w g N a' m' b' f' hn' => ih w g N a' m' b' f' (by omega)
        by_cases hc : (a + b) / 2 < m
        · exact sym_gen1 w g N a m b f IH hr hN (by omega) (by omega) h3 sU sV hc
        · exact sym_gen2 w g N a m b f IH hr hN (by omega) (by omega) h3 sU sV hc
theorem sym_any (w : World) (g N a m b : Nat) (f : Nat → FlR) (hr : Rw w g N f) (hN : N ≤ 1048576) (h1 : a < m) (h2 : m < b) (h3 : b ≤ N) (s1 : Srt ltR a m f) (s2 : Srt ltR m b f) :
  Calls Tryd.prog 108 #[.slice (some ⟨g, 0, none⟩) N N, .int .i64 (a : Nat), .int .i64 (m : Nat), .int .i64 (b : Nat), CmpV] w (SrPost w g N a b f) :=
  sym_all (b - a + 1) w g N a m b f (by omega) hr hN h1 h2 h3 s1 s2
end Go.Proofs.YtdmladdpbdcpjaaDoor
namespace Go.Proofs.YtdmladdpbdcpjaaDoor
open Go.RowKit

set_option linter.unusedSimpArgs false

attribute [local go_sem] lt1 lt2 lt3 lt4 lt5 lt6

theorem blk20_step {lt : FlR → FlR → Bool} {s k A : Nat} {f g : Nat → FlR} (hA : A = k * s) (h : ∀ q, q < k → Srt lt (q * s) ((q + 1) * s) f) (hm : Mv A (A + s) f g) (hs : Srt lt A (A + s) g) : ∀ q, q < k + 1 → Srt lt (q * s) ((q + 1) * s) g := fun q hq => by
  by_cases e : q = k
  · subst e
    rw [Nat.add_mul, Nat.one_mul, ← hA]
    exact hs
  · have hle : (q + 1) * s ≤ k * s := Nat.mul_le_mul_right _ (by omega)
    exact (h q (by omega)).congr fun i _ hi => hm.out (.inl (by omega))
theorem blk_done {lt : FlR → FlR → Bool} {s k n A : Nat} {f g : Nat → FlR} (hA : A = k * s) (h : ∀ q, q < k → Srt lt (q * s) ((q + 1) * s) f) (hm : Mv A n f g) (hs : Srt lt A n g) : Blk lt s n g := fun q => by
  by_cases hq : q < k
  · have hle : (q + 1) * s ≤ k * s := Nat.mul_le_mul_right _ (by omega)
    exact ((h q hq).congr fun i _ hi => hm.out (.inl (by omega))).sub (Nat.le_refl _) (Nat.min_le_left _ _)
  · have hge : k * s ≤ q * s := Nat.mul_le_mul_right _ (by omega)
    exact hs.sub (by omega) (Nat.min_le_right _ _)
theorem insert_int (w : World) (g N a b : Nat) (f : Nat → FlR) {aI bI : Int} (ea : aI = a) (eb : bI = b) (hr : Rw w g N f) (hN : N ≤ 1048576) (hab : a ≤ b) (hb : b ≤ N) :
    Calls Tryd.prog 107 #[.slice (some ⟨g, 0, none⟩) N N, .int .i64 aI, .int .i64 bI, .func (.func 74) #[] #[]] w (SrPost w g N a b f) := by
  subst ea eb
  exact insert_any w g N a b f hr hN hab hb
theorem sym_ints (w : World) (g N a m b : Nat) (f : Nat → FlR) {aI mI bI : Int} (ea : aI = a) (em : mI = m) (eb : bI = b) (hr : Rw w g N f) (hN : N ≤ 1048576) (h1 : a < m) (h2 : m < b) (h3 : b ≤ N) (s1 : Srt ltR a m f) (s2 : Srt ltR m b f) :
    Calls Tryd.prog 108 #[.slice (some ⟨g, 0, none⟩) N N, .int .i64 aI, .int .i64 mI, .int .i64 bI, .func (.func 74) #[] #[]] w (SrPost w g N a b f) := by
  subst ea em eb
  exact sym_any w g N a m b f hr hN h1 h2 h3 s1 s2
def S1Rel (w : World) (g N : Nat) (f : Nat → FlR) (av bv : Value) (wr : World) : Prop :=
  ∃ (k A : Nat) (f' : Nat → FlR), A = k * 20 ∧ A ≤ N ∧ av = .int .i64 A ∧ bv = .int .i64 ((A : Int) + 20) ∧ Mv 0 N f f' ∧ (∀ q, q < k → Srt ltR (q * 20) ((q + 1) * 20) f') ∧ Rw wr g N f' ∧ Fr [g] w wr
def S2Rel (w : World) (g N : Nat) (f : Nat → FlR) (sv : Value) (wr : World) : Prop :=
  ∃ (s : Nat) (f' : Nat → FlR), 20 ≤ s ∧ s ≤ 2 * N + 20 ∧ sv = .int .i64 s ∧ Mv 0 N f f' ∧ Blk ltR s N f' ∧ Rw wr g N f' ∧ Fr [g] w wr
def S3Rel (w : World) (g N s : Nat) (f : Nat → FlR) (av bv : Value) (wr : World) : Prop :=
  ∃ (k A : Nat) (f' : Nat → FlR), A = k * (2 * s) ∧ A ≤ N ∧ av = .int .i64 A ∧ bv = .int .i64 ((A + 2 * s : Nat) : Int) ∧ Mv 0 N f f' ∧ Mix ltR s N k f' ∧ Rw wr g N f' ∧ Fr [g] w wr
set_option maxHeartbeats 4000000 in
set_option maxRecDepth 100000 in
theorem stable_any (w : World) (g N : Nat) (f : Nat → FlR) (hr : Rw w g N f) (hN : N ≤ 1048576) :
    Calls Tryd.prog 95 #[.slice (some ⟨g, 0, none⟩) N N, .int .i64 (N : Nat), CmpV] w (SrPost w g N 0 N f) := by
  have H0 : Hid (S1Rel w g N f (.int .i64 0) (.int .i64 20) w) := Lib.hid ⟨0, 0, f, rfl, by omega, rfl, rfl, Mv.refl _ _ _, fun q hq => absurd hq (by omega), hr, Fr.refl _ _⟩
  clear hr
  unfold CmpV
  go_enter Tryd.func95, Tryd.ntmps95
  go_wp2_with fail
  go_loopw [7, 8] (fun av bv wr => S1Rel w g N f av bv wr) (fun _ bv _ => N + 20 - (intOf bv).toNat)
  case atStart => exact H0.out
  case round =>
    clear H0
    obtain ⟨k, A, f1, hA, hAN, rfl, rfl, hm, hs, hr, hf⟩ := hrel
    have HA := Lib.hid hA
    have Hm := Lib.hid hm
    have Hs := Lib.hid hs
    have Hr := Lib.hid hr
    have Hf := Lib.hid hf
    clear hA hm hs hr hf
    by_cases hle : A + 20 ≤ N
    · have hI : (A : Int) + 20 ≤ N := by omega
      have k1 := IntWalk.i64_in ((A : Int) + 20 + 20) (by omega)
      go_wp2_with fail
      refine (insert_int _ g N A (A + 20) f1 rfl (by omega) Hr.out hN (by omega) hle).mono ?_
      rintro e w1 ⟨rfl, f2, m2, t2, r2, g2⟩
      have Hfin : Hid (S1Rel w g N f (.int .i64 ((A : Int) + 20)) (.int .i64 ((A : Int) + 20 + 20)) w1) := Lib.hid ⟨k + 1, A + 20, f2, by have := HA.out; omega, hle, by simp, by simp, Hm.out.trans (m2.wide (by omega) hle), blk20_step HA.out Hs.out m2 t2, r2, Hf.out.trans g2⟩
      clear m2 t2 r2 g2
      go_wp2_with fail
      go_roundw
      case rel => exact Hfin.out
      case measure => simp [intOf]; omega
    · have hI : ¬ (A : Int) + 20 ≤ N := by omega
      go_wp2_with fail
      refine (insert_int _ g N A N f1 rfl rfl Hr.out hN hAN (Nat.le_refl N)).mono ?_
      rintro e w1 ⟨rfl, f2, m2, t2, r2, g2⟩
      have H2 : Hid (S2Rel w g N f (.int .i64 20) w1) := Lib.hid ⟨20, f2, by omega, by omega, rfl, Hm.out.trans (m2.wide (by omega) (Nat.le_refl N)), blk_done HA.out Hs.out m2 t2, r2, Hf.out.trans g2⟩
      clear m2 t2 r2 g2 Hr Hf Hm Hs HA
      go_wp2_with fail
      go_loopw [6] (fun sv wr => S2Rel w g N f sv wr) (fun sv _ => N - (intOf sv).toNat)
      case atStart => exact H2.out
      case round =>
        clear H2
        obtain ⟨s, f3, hs1, hs2, rfl, hm, hs, hr, hf⟩ := hrel
        by_cases hlt : s < N
        · have hlI : (s : Int) < N := by omega
          have k1 := IntWalk.i64_in (2 * (s : Int)) (by omega)
          have H3 : Hid (S3Rel w g N s f (.int .i64 0) (.int .i64 (2 * (s : Int))) wr) := Lib.hid ⟨0, 0, f3, by omega, by omega, rfl, by congr 1 <;> omega, hm, Mix.start hs, hr, hf⟩
          clear hm hs hr hf
          go_wp2_with fail
          obtain ⟨wo, rfl⟩ : ∃ wo : World, wo = wr := ⟨_, rfl⟩
          go_loopw [7, 8] (fun av bv wr => S3Rel w g N s f av bv wr) (fun _ bv _ => N + 2 * s - (intOf bv).toNat)
          case atStart => exact H3.out
          case round =>
            clear H3
            obtain ⟨k, A, f4, hA, hAN, rfl, rfl, hm, hs, hr, hf⟩ := hrel
            have hh := hs.halves
            rw [← hA] at hh
            have Hh := Lib.hid hh
            have HA := Lib.hid hA
            have Hm := Lib.hid hm
            have Hs := Lib.hid hs
            have Hr := Lib.hid hr
            have Hf := Lib.hid hf
            clear hA hm hs hr hf hh
            have k2 := IntWalk.i64_in ((A : Int) + s) (by omega)
            by_cases hle : A + 2 * s ≤ N
            · have hI : ((A + 2 * s : Nat) : Int) ≤ N := by omega
              have hI' : (A : Int) + 2 * (s : Int) ≤ N := by omega
              have k3 := IntWalk.i64_in ((A : Int) + 2 * (s : Int) + 2 * (s : Int)) (by omega)
              have k4 := IntWalk.i64_in ((A : Int) + 2 * (s : Int)) (by omega)
              go_wp2_with fail
              refine (sym_ints _ g N A (A + s) (A + 2 * s) f4 rfl (by omega) (by omega) Hr.out hN (by omega) (by omega) hle (by have := Hh.out.1; rw [Nat.min_eq_left (by omega)] at this; exact this) (by have := Hh.out.2; rw [Nat.min_eq_left (by omega)] at this; exact this)).mono ?_
              rintro e w2 ⟨rfl, f5, m5, t5, r5, g5⟩
              have Hfin : Hid (S3Rel w g N s f (.int .i64 ((A : Int) + 2 * (s : Int))) (.int .i64 ((A : Int) + 2 * (s : Int) + 2 * (s : Int))) w2) := Lib.hid ⟨k + 1, A + 2 * s, f5, by rw [HA.out, Nat.add_mul, Nat.one_mul], hle, by congr 1 <;> omega, by congr 1 <;> omega, Hm.out.trans (m5.wide (by omega) hle), Hs.out.step (by rw [← HA.out]; exact m5) (by rw [← HA.out]; exact t5), r5, Hf.out.trans g5⟩
              clear m5 t5 r5 g5
              go_wp2_with fail
              go_roundw
              case rel => exact Hfin.out
              case measure => simp [intOf]; omega
            · have hI : ¬ ((A + 2 * s : Nat) : Int) ≤ N := by omega
              have hI' : ¬ (A : Int) + 2 * (s : Int) ≤ N := by omega
              have k5 := IntWalk.i64_in ((s : Int) * 2) (by omega)
              by_cases hmid : A + s < N
              · have hI2 : (A : Int) + s < N := by omega
                go_wp2_with fail
                refine (sym_ints _ g N A (A + s) N f4 rfl (by omega) rfl Hr.out hN (by omega) hmid (Nat.le_refl N) (by have := Hh.out.1; rw [Nat.min_eq_left (by omega)] at this; exact this) (by have := Hh.out.2; rw [Nat.min_eq_right (by omega)] at this; exact this)).mono ?_
                rintro e w2 ⟨rfl, f5, m5, t5, r5, g5⟩
                have Hfin : Hid (S2Rel w g N f (.int .i64 ((s : Int) * 2)) w2) := Lib.hid ⟨2 * s, f5, by omega, by omega, by congr 1 <;> omega, Hm.out.trans (m5.wide (by omega) (Nat.le_refl N)), Hs.out.done (by rw [← HA.out]; exact m5) (by rw [← HA.out]; exact t5), r5, Hf.out.trans g5⟩
                clear m5 t5 r5 g5
                go_wp2_with fail
                exact ⟨Hfin.out, by simp only [intOf]; omega⟩
              · have hI2 : ¬ (A : Int) + s < N := by omega
                have Hfin : Hid (S2Rel w g N f (.int .i64 ((s : Int) * 2)) wr) := Lib.hid ⟨2 * s, f4, by omega, by omega, by congr 1 <;> omega, Hm.out, Hs.out.done (by exact Mv.refl _ _ _) (by rw [← HA.out]; have := Hh.out.1; rw [Nat.min_eq_right (by omega)] at this; exact this), Hr.out, Hf.out⟩
                go_wp2_with fail
                exact ⟨Hfin.out, by simp only [intOf]; omega⟩
        · have hlI : ¬ (s : Int) < N := by omega
          have Hfin : Hid (SrPost w g N 0 N f (.returned (.tuple #[])) wr) := Lib.hid ⟨rfl, f3, hm, hs.all (by omega), hr, hf⟩
          clear hm hs hr hf
          go_wp2_with fail
          go_end0
          exact Hfin.out
theorem sort_any (w : World) (g N : Nat) (f : Nat → FlR) (hr : Rw w g N f) (hN : N ≤ 1048576) :
    Calls Tryd.prog 73 #[.slice (some ⟨g, 0, none⟩) N N, CmpV] w (SrPost w g N 0 N f) := by
  have Hr := Lib.hid hr
  clear hr
  unfold CmpV
  go_enter Tryd.func73, Tryd.ntmps73
  go_wp2_with fail
  refine (stable_any _ g N f Hr.out hN).mono ?_
  rintro e w1 ⟨rfl, h⟩
  have H := Lib.hid h
  clear h
  go_wp2_with fail
  go_end0
  exact ⟨rfl, H.out⟩
end Go.Proofs.YtdmladdpbdcpjaaDoor
namespace Go.Proofs.YtdmladdpbdcpjaaDoor
open Go.RowKit

set_option linter.unusedSimpArgs false

attribute [local go_sem] lt1 lt2 lt3 lt4 lt5 lt6

def toR : List Value → FlR
  | [.string s, .slice a n c] => ⟨s, a, n, c⟩
  | _ => ⟨⟨#[]⟩, none, 0, 0⟩
theorem toR_of {w : World} {c : List Value} {p : Fl} (h : CFl w c p) : (toR c).nm = p.1 ∧ c = [.string (toR c).nm, (toR c).sl] ∧ (toR c).n = p.2.length ∧ Bs w (toR c).ad (toR c).c p.2 := by
  obtain ⟨A, k, rfl, h2⟩ := h
  exact ⟨rfl, rfl, rfl, h2⟩
theorem all2_at {α β : Type} {Q : α → β → Prop} {l : List α} {m : List β} (h : All2 Q l m) {i : Nat} {a : α} (hi : l[i]? = some a) : ∃ b, m[i]? = some b ∧ Q a b := by
  have hl := h.length
  have hil : i < m.length := by rw [← hl]; exact (List.getElem?_eq_some_iff.1 hi).1
  obtain ⟨a', h1, h2⟩ := h.at_ (List.getElem?_eq_getElem hil)
  rw [hi] at h1
  cases h1
  exact ⟨_, List.getElem?_eq_getElem hil, h2⟩
/-- a row of files that was made, as a function of the places -/
theorem rw_of {w w1 : World} {base : Nat} {A : Option Addr} {n : Nat} {cs : List (List Value)} {l : List Fl} (hcs : All2 (CFl w) cs l) (hn : n = l.length) (ho : w1.ownsRow base 46 2 (.slice A n n) n cs.flatten) (hA : A ≠ none) :
    ∃ g, A = some ⟨g, 0, none⟩ ∧ base ≤ g ∧ Rw w1 g n (fun i => toR (cs.getD i [])) := by
  obtain ⟨_, h | ⟨g, cap, cur, hv, hb, hh, _, _, hsz, htk⟩⟩ := ho
  · simp at h; first | exact absurd h.1.1 hA | exact absurd h.1 hA
  · simp only [Value.slice.injEq] at hv
    obtain ⟨rfl, _, rfl⟩ := hv
    refine ⟨g, rfl, hb, cur, hh, hsz, fun i hi => ?_⟩
    have hck : ∀ c ∈ cs, c.length = 2 := hcs.forall_left fun c p hh => hh.len
    have hil : i < cs.length := by rw [hcs.length, ← hn]; exact hi
    have hci : cs[i]? = some cs[i] := List.getElem?_eq_getElem hil
    obtain ⟨p, _, hp⟩ := all2_at hcs hci
    obtain ⟨_, h2, _⟩ := toR_of hp
    have hg : cs.getD i [] = cs[i] := by simp [List.getD_eq_getElem?_getD, hil]
    have e : ∀ j, j < 2 → cur[i * 2 + j]? = cs[i][j]? := fun j hj => by
      have := flat_at hck hci hj
      rw [← htk, List.getElem?_take_of_lt (by omega)] at this
      rw [← this]
      simp
    show cur[i * 2]? = some (.string (toR (cs.getD i [])).nm) ∧ cur[i * 2 + 1]? = some (toR (cs.getD i [])).sl
    rw [hg]
    have e0 := e 0 (by omega)
    have e1 := e 1 (by omega)
    rw [h2] at e0 e1
    exact ⟨by simpa using e0, by simpa using e1⟩
theorem rw_back {w2 : World} {base g n : Nat} {f : Nat → FlR} {cs : List (List Value)} (hr : Rw w2 g n f) (hb : base ≤ g) (hm : n ≤ maxLen) (hcs : cs = (List.range n).map fun i => [.string (f i).nm, (f i).sl]) :
    w2.ownsRow base 46 2 (.slice (some ⟨g, 0, none⟩) n n) n cs.flatten := by
  obtain ⟨cur, h1, h2, h3⟩ := hr
  have h2l : ∀ c ∈ cs, c.length = 2 := by rw [hcs]; intro c hc; obtain ⟨i, _, rfl⟩ := List.mem_map.1 hc; rfl
  have hcl : cs.length = n := by rw [hcs]; simp
  refine ⟨?_, .inr ⟨g, n, cur, rfl, hb, h1, Nat.le_refl _, hm, h2, ?_⟩⟩
  · rw [flat_len h2l, hcl]
  · apply List.ext_getElem?
    intro j
    by_cases hj : j < n * 2
    · rw [List.getElem?_take_of_lt hj]
      have hi : j / 2 < n := by omega
      have hf := flat_at h2l (i := j / 2) (c := [Value.string (f (j / 2)).nm, (f (j / 2)).sl]) (by rw [hcs, List.getElem?_map, List.getElem?_range hi]; rfl) (j := j % 2) (by omega)
      rw [show j / 2 * 2 + j % 2 = j by omega] at hf
      rw [hf]
      obtain ⟨k1, k2⟩ := h3 (j / 2) hi
      rcases (by omega : j % 2 = 0 ∨ j % 2 = 1) with e | e
      · rw [Array.getElem?_toList, e]
        generalize hq : j / 2 = q at *
        rw [show j = q * 2 by omega]
        exact k1
      · rw [Array.getElem?_toList, e]
        generalize hq : j / 2 = q at *
        rw [show j = q * 2 + 1 by omega]
        exact k2
    · rw [List.getElem?_eq_none (by simp; omega), List.getElem?_eq_none]
      rw [flat_len h2l, hcl]
      omega
/-- what the sort leaves, as a list -/
theorem sorted_list {n : Nat} {f f' : Nat → FlR} {l : List Fl} (hn : n = l.length) (hf : ∀ i, i < n → (f i).nm = (l.getD i noFl).1) (hm : Mv 0 n f f') (hs : Srt ltR 0 n f') (hd : ∀ a ∈ l, ∀ b ∈ l, a.1 = b.1 → a = b) :
    ∃ s : Nat → Nat, (∀ i, i < n → s i < n) ∧ (∀ i, i < n → f' i = f (s i)) ∧ (List.range n).map (fun i => l.getD (s i) noFl) = byName l := by
  obtain ⟨s, t, h1, h2, h3, h4⟩ := hm
  have hlt : ∀ i, i < n → s i < n := fun i hi => by
    rcases Nat.lt_or_ge (s i) n with hh | hh
    · exact hh
    · have h5 := congrArg t (h3 (s i) (.inr hh))
      rw [h2, h2] at h5
      omega
  refine ⟨s, hlt, fun i _ => h4 i, ?_⟩
  have hp : ((List.range n).map (fun i => l.getD (s i) noFl)).Perm l := by
    have h5 : Mv 0 n (fun i => l.getD i noFl) (fun i => l.getD (s i) noFl) := ⟨s, t, h1, h2, h3, fun i => rfl⟩
    have := h5.perm
    rw [show (List.range n).map (fun i => l.getD i noFl) = l by rw [hn]; exact range_getD l noFl] at this
    exact this
  refine sorted_unique hd hp ?_
  unfold SrtL
  have hs' : Srt ltF 0 n (fun i => l.getD (s i) noFl) := fun i j hi hij hj => by
    have := hs i j hi hij hj
    unfold ltR at this
    rw [h4 j, h4 i, hf _ (hlt j hj), hf _ (hlt i (by omega))] at this
    exact this
  exact hs'.pairwise
def RqPost (w : World) (l : List Fl) (Q : List Value → Fl → Prop) (e : Ending) (w' : World) : Prop :=
  ∃ v, e = .returned v ∧ (∃ cs', All2 Q cs' (byName l) ∧ w'.ownsRow w.heap.size 46 2 v l.length cs'.flatten) ∧ Below w.heap.size w w'
set_option maxHeartbeats 2000000 in
set_option maxRecDepth 100000 in
theorem rising_q (w : World) (A : Option Addr) (c n : Nat) (l : List Fl) (hln : n = l.length) (Q : List Value → Fl → Prop) (hQ : ∀ c p, Q c p → CFl w c p) (cs : List (List Value)) (hqs : All2 Q cs l) (hcell : ∀ ad, A = some ad → ∀ j u, cs.flatten[j]? = some u → w.cell? (ad.add j) = some u) (hf : FlAt w A c l) (hl : l.length ≤ 1048576) (hd : ∀ a ∈ l, ∀ b ∈ l, a.1 = b.1 → a = b) :
    Calls Tryd.prog 48 #[.slice A n c] w (RqPost w l Q) := by
  subst hln
  obtain ⟨i0, hi0, hz0, hz1, hz2⟩ := info_parts infoFile
  have hcs : All2 (CFl w) cs l := hqs.mono hQ
  have Hqs := Lib.hid hqs
  clear hqs
  have hck : ∀ c ∈ cs, c.length = 2 := hcs.forall_left fun c p hh => hh.len
  have hclen : cs.flatten.length = l.length * 2 := by rw [flat_len hck, hcs.length]
  have hone := cells_one hcs
  have Hf := Lib.hid hf
  have Hcs := Lib.hid hcs
  have Hcell := Lib.hid hcell
  have Hclen := Lib.hid hclen
  have Hone := Lib.hid hone
  have Hd := Lib.hid hd
  clear hf hcs hcell hck hclen hone hd
  go_enter Tryd.func48, Tryd.ntmps48
  go_wp2_with (first | (at_make; refine wpList_make_own _ rfl _ _ 22 rfl w.heap.size 46 i0 (.agg #[.string ⟨#[]⟩, .slice none 0 0]) 2 Tryd.underlying22 hi0 hz0 hz1 _ _ _ l.length rfl rfl rfl ?hby ?hml ?hba ?_))
  case hby => rw [hz2]; omega
  case hml => simp [maxLen]; omega
  case hba => exact Nat.le_refl _
  intro w1 hown hgrow
  go_wp2_with (first | (at_builtin; refine wpList_append_fits_any _ rfl _ _ 22 rfl w.heap.size 46 i0 2 Tryd.underlying22 hi0 hz1 w.heap.size 0 l.length [] rfl hown A l.length c cs.flatten rfl ?hl ?hn ?hc ?h1c ?hb ?_))
  case hl => exact Hclen.out
  case hn => exact fun hA => by obtain ⟨h1, h2⟩ := Hf.out.nil hA; exact ⟨by rw [h1]; rfl, h2⟩
  case hc => exact fun ad hA j u hu => hgrow.cell (Hcell.out ad hA j u hu) (by simp)
  case h1c => exact Hone.out
  case hb => omega
  intro w2 hown2 hgrow2
  have hb2 : Below w.heap.size w w2 := (((Below.refl _ _).grown hgrow (Nat.le_refl _) (by simp)).grown hgrow2 hgrow.size (by intro k hk; cases hk; exact Nat.le_refl _))
  have hown3 : w2.ownsRow w.heap.size 46 2 (.slice (some ⟨w.heap.size, 0, none⟩) l.length l.length) l.length cs.flatten := by simpa using hown2
  obtain ⟨g, hg, hbg, hr⟩ := rw_of Hcs.out rfl hown3 (by simp)
  simp only [Option.some.injEq, Addr.mk.injEq] at hg
  obtain ⟨rfl, _⟩ := hg
  have Hr := Lib.hid hr
  have Hb2 := Lib.hid hb2
  clear hown hgrow hown2 hgrow2 hb2 hown3 hr hbg
  go_wp2_with fail
  refine (sort_any _ _ l.length _ Hr.out hl).mono ?_
  rintro e w3 ⟨rfl, f', hm, hs, hr3, hf3⟩
  have hb3 : Below w.heap.size w w3 := Hb2.out.trans (hf3.below (B := w.heap.size) Hb2.out.size (fun k hk => by rw [List.mem_singleton.1 hk]; exact Nat.le_refl _))
  have Hfin : Hid (∃ cs', All2 Q cs' (byName l) ∧ w3.ownsRow w.heap.size 46 2 (.slice (some ⟨w.heap.size, 0, none⟩) l.length l.length) l.length cs'.flatten) := Lib.hid (by
    have hat : ∀ i, i < l.length → CFl w (cs.getD i []) (l.getD i noFl) := fun i hi => by
      have hil : i < cs.length := by rw [Hcs.out.length]; exact hi
      have hci : cs[i]? = some cs[i] := List.getElem?_eq_getElem hil
      obtain ⟨p, hp1, hp2⟩ := all2_at Hcs.out hci
      have h1 : cs.getD i [] = cs[i] := by simp [List.getD_eq_getElem?_getD, hil]
      have h2 : l.getD i noFl = p := by rw [List.getD_eq_getElem?_getD, hp1]; rfl
      rw [h1, h2]
      exact hp2
    obtain ⟨s, hs1, hs2, hs3⟩ := sorted_list (f := fun i => toR (cs.getD i [])) rfl (fun i hi => (toR_of (hat i hi)).1) hm hs Hd.out
    refine ⟨(List.range l.length).map fun i => cs.getD (s i) [], ?_, rw_back hr3 (Nat.le_refl _) (by unfold maxLen; omega) (List.map_congr_left fun i hi => ?_)⟩
    · rw [← hs3]
      refine all2_of (by simp) fun i a b ha hb' => ?_
      have hi : i < l.length := by have := (List.getElem?_eq_some_iff.1 ha).1; simpa using this
      rw [List.getElem?_map, List.getElem?_range hi] at ha hb'
      simp only [Option.map_some, Option.some.injEq] at ha hb'
      have hsi := hs1 i hi
      have hil : s i < cs.length := by rw [Hqs.out.length]; exact hsi
      have hci : cs[s i]? = some cs[s i] := List.getElem?_eq_getElem hil
      obtain ⟨p, hp1, hp2⟩ := all2_at Hqs.out hci
      have h1 : cs.getD (s i) [] = cs[s i] := by simp [List.getD_eq_getElem?_getD, hil]
      have h2 : l.getD (s i) noFl = p := by rw [List.getD_eq_getElem?_getD, hp1]; rfl
      rw [← ha, ← hb', h1, h2]
      exact hp2
    · rw [hs2 i (List.mem_range.1 hi)]
      exact (toR_of (hat (s i) (hs1 i (List.mem_range.1 hi)))).2.1)
  have Hb3 := Lib.hid hb3
  clear hm hs hr3 hf3 hb3 Hr
  go_wp2_with fail
  go_ret
  exact ⟨_, rfl, Hfin.out, Hb3.out⟩
theorem rising_any (w : World) (A : Option Addr) (c : Nat) (l : List Fl) (hf : FlAt w A c l) (hl : l.length ≤ 1048576) (hd : ∀ a ∈ l, ∀ b ∈ l, a.1 = b.1 → a = b) :
    Calls Tryd.prog 48 #[.slice A l.length c] w (BnPost w (byName l)) := by
  obtain ⟨cs, hcs, hcell⟩ := hf.row
  refine (rising_q w A c l.length l rfl (CFl w) (fun _ _ h => h) cs hcs hcell hf hl hd).mono fun e w' h => ?_
  obtain ⟨v, he, ⟨cs', h1, h2⟩, hb⟩ := h
  exact ⟨v, he, ⟨cs', h1.mono fun _ _ h => h.keep (Cells.of_below hb), by rw [byName_length]; exact h2⟩, hb⟩
end Go.Proofs.YtdmladdpbdcpjaaDoor
