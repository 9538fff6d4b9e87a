/-
  Asked and Total: how often a URL, and any, was requested.
-/
import Derived.Test.YtpblaclhfcomeaaNetIs
import Derived.Maps.RangeWalk
namespace Go.Proofs.Ytpblaclhfcomeaa
open Go.RowKit Go.Maps Go.MuLone Go.ChangeMaps Go.MapKept

attribute [local go_sem] lt1 lt2 lt3 lt4 lt5 lt6

def AskedPost (w : World) (nb pb fb ab : Nat) (S : NetSt) (u : ByteArray) (e : Ending) (w' : World) : Prop :=
  e = .returned (.int .i64 (nth S u : Nat)) ∧ NetAt w' nb pb fb ab 0 S ∧ Fr [] w w'

theorem Fr.drop1 {n : Nat} {F : List Nat} {w w' : World} (h : Fr (n :: F) w w') (hn : w'.heap[n]? = w.heap[n]?) : Fr F w w' :=
  ⟨h.os, h.tape, h.output, h.size, fun k hk hh => by
    by_cases e : k = n
    · rw [e]; exact hn
    · exact h.block k hk (by simp [e, hh])⟩

theorem asked_any (w : World) (nb pb fb ab : Nat) (S : NetSt) (u : ByteArray) (h : NetAt w nb pb fb ab 0 S) (hu : u.size ≤ maxLen) :
    Calls Try.prog 12 #[.pointer (some ⟨nb, 0, none⟩), .string u] w (AskedPost w nb pb fb ab S u) := by
  have H := Lib.hid h
  clear h
  go_enter_defers Try.func12, Try.ntmps12
  go_wp2_with fail
  refine (lock_at _ H.out).mono ?_
  rintro e w1 ⟨rfl, h1, F1⟩
  have c1 := blk_cells h1.blk
  have l1 := h1.ask_look hu w1 rfl
  have H1 := Lib.hid h1
  have HF1 := Lib.hid F1
  clear h1 F1
  go_wp2_with fail
  refine leaves_cons (f := 33) (args := #[.pointer (some ⟨nb, 0, none⟩)]) (by simp) (by simp [go_sem]) ?_
  refine (unlock_at .returning _ H1.out).mono ?_
  rintro e u' w6 ⟨rfl, rfl, h6, F6⟩
  exact ⟨_, results_tmp rfl _ _ _, rfl, h6, Fr.drop1 (n := nb) (HF1.out.trans F6) (h6.blk.trans H.out.blk.symm)⟩

/-- the sum of what is still to come -/
def leftSum (es : Array MapEntry) (seen : Array Nat) : Int := ((leftOf es seen).toList.map fun e => intOf e.val).sum
theorem sum_strike (e : MapEntry) : ∀ l : List MapEntry, e ∈ l → (l.map (·.born)).Nodup → (l.map fun e => intOf e.val).sum = intOf e.val + ((l.filter fun x => !(x.born == e.born)).map fun e => intOf e.val).sum
  | [], h, _ => by simp at h
  | x :: l, h, hn => by
    simp only [List.map_cons, List.nodup_cons] at hn
    obtain ⟨hx, hn⟩ := hn
    by_cases he : x.born = e.born
    · have hxe : x = e := by
        rcases List.mem_cons.1 h with h | h
        · exact h.symm
        · exact absurd (List.mem_map.2 ⟨e, h, he.symm⟩) hx
      subst hxe
      have hf : l.filter (fun y => !(y.born == x.born)) = l := by
        rw [List.filter_eq_self]
        intro y hy
        have : y.born ≠ x.born := fun hh => hx (List.mem_map.2 ⟨y, hy, hh⟩)
        simp [this]
      simp [hf]
    · have hm : e ∈ l := by
        rcases List.mem_cons.1 h with h | h
        · exact absurd (by rw [h]) he
        · exact h
      have ih := sum_strike e l hm hn
      simp [he, ih]
      omega
theorem leftSum_step {es : Array MapEntry} {seen : Array Nat} {e : MapEntry} (hn : (es.toList.map (·.born)).Nodup) (he : e ∈ (leftOf es seen).toList) : leftSum es seen = intOf e.val + leftSum es (seen.push e.born) := by
  unfold leftSum
  rw [sum_strike e _ he ?_]
  · congr 3
    unfold leftOf
    rw [← Array.toList_filter, Array.filter_filter]
    congr 1
    apply Array.filter_congr rfl
    · funext x
      rw [contains_push]
      cases seen.contains x.born <;> cases (x.born == e.born) <;> rfl
    all_goals rfl
  · unfold leftOf
    rw [Array.toList_filter]
    exact hn.sublist ((List.filter_sublist).map _)
def total (S : NetSt) : Nat := (S.asked.map (·.2)).sum
theorem all2_sum : ∀ {l : List MapEntry} {m : List (ByteArray × Nat)}, All2 (fun e x => e.key = StrKey x.1 ∧ RAsk e.val x.2) l m → (l.map fun e => intOf e.val).sum = ((m.map (·.2)).sum : Nat) ∧ ∀ e ∈ l, ∃ n : Nat, e.val = .int .i64 n
  | [], [], _ => by simp
  | [], _ :: _, h => h.elim
  | _ :: _, [], h => h.elim
  | e :: l, x :: m, h => by
    obtain ⟨i1, i2⟩ := all2_sum h.2
    have hv : e.val = .int .i64 x.2 := h.1.2
    refine ⟨?_, ?_⟩
    · have hv2 : intOf e.val = (x.2 : Int) := by rw [hv]; rfl
      simp only [List.map_cons, List.sum_cons]
      rw [i1, hv2]
      omega
    · intro f hf
      rcases List.mem_cons.1 hf with rfl | hf
      · exact ⟨_, hv⟩
      · exact i2 f hf
theorem left_nonneg {es : Array MapEntry} (h : ∀ e ∈ es.toList, ∃ n : Nat, e.val = .int .i64 n) (seen : Array Nat) : 0 ≤ leftSum es seen := by
  have : ∀ l : List MapEntry, (∀ e ∈ l, ∃ n : Nat, e.val = .int .i64 n) → 0 ≤ (l.map fun e => intOf e.val).sum := by
    intro l
    induction l with
    | nil => simp
    | cons e l ih =>
      intro hl
      obtain ⟨n, hn⟩ := hl e (by simp)
      have := ih fun f hf => hl f (by simp [hf])
      have hn2 : intOf e.val = (n : Int) := by rw [hn]; rfl
      simp only [List.map_cons, List.sum_cons]
      rw [hn2]
      omega
  exact this _ fun e he => h e (mem_left he).1

def TotalPost (w : World) (nb pb fb ab : Nat) (S : NetSt) (e : Ending) (w' : World) : Prop :=
  e = .returned (.int .i64 (total S : Nat)) ∧ NetAt w' nb pb fb ab 0 S ∧ Fr [] w w'

/-- a round of the sum -/
def SumRel (w1 : World) (ab : Nat) (S : NetSt) (es : Array MapEntry) (clock : Nat) (s : Value) (wr : World) : Prop :=
  ∃ (acc : Int) (seen : Array Nat) (c0 : Nat), s = .int .i64 acc ∧ 0 ≤ acc ∧ acc + leftSum es seen = total S ∧ clock ≤ c0 ∧ wr.heap[w1.heap.size]? = some (.mapIter (some ab) clock seen c0) ∧ Below w1.heap.size w1 wr

set_option maxHeartbeats 1000000 in
set_option maxRecDepth 100000 in
theorem total_any (w : World) (nb pb fb ab : Nat) (S : NetSt) (h : NetAt w nb pb fb ab 0 S) (hT : total S ≤ 4611686018427387904) :
    Calls Try.prog 14 #[.pointer (some ⟨nb, 0, none⟩)] w (TotalPost w nb pb fb ab S) := by
  have H := Lib.hid h
  clear h
  go_enter_defers Try.func14, Try.ntmps14
  go_wp2_with fail
  refine (lock_at _ H.out).mono ?_
  rintro e w1 ⟨rfl, h1, F1⟩
  have c1 := blk_cells h1.blk
  obtain ⟨o, hb, es, clock, rfl, hst, hal, hkeys⟩ := h1.asked
  have hrg := run_range_map (P := Try.prog) w1 72 _ _ ab es clock Try.underlying72 hb
  obtain ⟨hsum, hints⟩ := all2_sum hal
  obtain ⟨hborn, hnd, _⟩ := (stamped_iff es clock).1 hst
  have H1 := Lib.hid h1
  have HF1 := Lib.hid F1
  have Hb := Lib.hid hb
  have Hsum := Lib.hid hsum
  have Hints := Lib.hid hints
  have Hborn := Lib.hid hborn
  have Hnd := Lib.hid hnd
  clear h1 F1 hb hst hal hkeys hsum hints hborn hnd
  go_wp2_with fail
  clear hrg c1
  go_loopw [3] (fun s wr => SumRel w1 ab S es clock s wr) (fun _ wr => wr.rangeLeft ab w1.heap.size)
  case atStart =>
    refine ⟨0, #[], clock, rfl, by omega, ?_, Nat.le_refl _, heap_alloc_new w1 _, (Below.refl _ _).alloc (Nat.le_refl _) _⟩
    have hself : (leftOf es #[]).toList = es.toList := by unfold leftOf; rw [Array.toList_filter]; exact List.filter_eq_self.2 (by simp)
    unfold leftSum total
    rw [hself, Hsum.out]
    omega
  case round =>
    obtain ⟨acc, seen, c0, rfl, hacc, hs, hcc, hr, hB⟩ := hrel
    have hbr : wr.heap[ab]? = some (.map es clock) := (hB.block _ (H1.out.lt ab (by simp))).trans Hb.out
    have hlf : wr.rangeLeft ab w1.heap.size = (leftOf es seen).size := by unfold World.rangeLeft; rw [hbr, hr]
    have Hlf := Lib.hid hlf
    rcases run_next_at (P := Try.prog) wr 0 w1.heap.size ab clock c0 seen es clock hr hbr Hborn.out hcc with ⟨h0, _⟩ | ⟨e, he, w2, hw2, hrun⟩
    · have hrun : ∀ ty, (Instr.next (.pointer (some ⟨w1.heap.size, 0, none⟩)) false ty).run Try.prog wr = .ok (.tuple #[.bool false]) wr := by
        intro ty
        rcases run_next_at (P := Try.prog) wr ty w1.heap.size ab clock c0 seen es clock hr hbr Hborn.out hcc with ⟨_, hh⟩ | ⟨e, he, _⟩
        · exact hh
        · have : (leftOf es seen).toList = [] := by apply List.eq_nil_of_length_eq_zero; simpa using h0
          rw [this] at he; simp at he
      have hl0 : leftSum es seen = 0 := by
        unfold leftSum
        have : (leftOf es seen).toList = [] := by apply List.eq_nil_of_length_eq_zero; simpa using h0
        rw [this]; rfl
      have Hs : Hid (acc = total S) := Lib.hid (by omega)
      have Hr := Lib.hid hr
      have HB := Lib.hid hB
      clear hs hl0 hr hB hlf hbr
      go_wp2_with fail
      refine leaves_cons (f := 33) (args := #[.pointer (some ⟨nb, 0, none⟩)]) (by simp) (by simp [go_sem]) ?_
      refine (unlock_at .returning _ (H1.out.below HB.out)).mono ?_
      rintro e u' w6 ⟨rfl, rfl, h6, F6⟩
      exact ⟨.int .i64 acc, (results_tmp (t := 2) rfl _ _ _).trans rfl, ret_int Hs.out, h6, Fr.drop1 (n := nb) ((HF1.out.trans (Fr.of_below HB.out _)).trans F6) (h6.blk.trans H.out.blk.symm)⟩
    · have hm := mem_left he
      obtain ⟨n, hev⟩ := Hints.out e hm.1
      have hst := leftSum_step Hnd.out he
      have hln := left_nonneg Hints.out (seen.push e.born)
      have hin : intOf e.val = (n : Int) := by rw [hev]; rfl
      have hr2 : w2.heap[w1.heap.size]? = some (.mapIter (some ab) clock seen c0) := by rcases hw2 with rfl | rfl <;> exact hr
      have hB2 : Below w1.heap.size w1 w2 := by rcases hw2 with rfl | rfl; exact hB; exact hB.drew
      have hx1 : (setBlock w2 w1.heap.size (.mapIter (some ab) clock (seen.push e.born) clock)).heap[w1.heap.size]? = some (.mapIter (some ab) clock (seen.push e.born) clock) := setBlock_same (lt_of_heap hr2)
      have hx2 : Below w1.heap.size w1 (setBlock w2 w1.heap.size (.mapIter (some ab) clock (seen.push e.born) clock)) := hB2.trans ((Fr.setBlock [w1.heap.size] w2 _ _ (by simp)).below (by have := lt_of_heap hr2; omega) (by simp))
      have hshr := left_shrinks es seen e he
      generalize setBlock w2 w1.heap.size (.mapIter (some ab) clock (seen.push e.born) clock) = x at *
      have hent := run_entry_at (P := Try.prog) x w1.heap.size ab clock seen es clock e hx1 ((hx2.block _ (H1.out.lt ab (by simp))).trans Hb.out) hm.1 Hnd.out
      have hlx : x.rangeLeft ab w1.heap.size = (leftOf es (seen.push e.born)).size := by unfold World.rangeLeft; rw [(hx2.block _ (H1.out.lt ab (by simp))).trans Hb.out, hx1]
      have hle : acc + n ≤ 4611686018427387904 := by omega
      have Hnew : Hid (acc + n + leftSum es (seen.push e.born) = total S) := Lib.hid (by omega)
      have Hx1 := Lib.hid hx1
      have Hx2 := Lib.hid hx2
      have Hlx := Lib.hid hlx
      have hacc2 : acc ≤ 4611686018427387904 := by omega
      clear hs hr hB hlf hbr hst hln hin hr2 hB2 hx1 hx2 hlx hw2
      go_wp2_with fail
      go_roundw
      case rel => exact ⟨acc + n, seen.push e.born, clock, by go_num, by omega, Hnew.out, Nat.le_refl _, Hx1.out, Hx2.out⟩
      case measure => rw [Hlx.out, Hlf.out]; exact hshr
end Go.Proofs.Ytpblaclhfcomeaa
