/-
  The reference network: where a page stands; how often a URL was asked.
-/
import Derived.Test.YtpblaclhfcomeaaRef
namespace Go.Proofs.Ytpblaclhfcomeaa
open Go.RowKit Go.Maps

attribute [local go_sem] lt1 lt2 lt3 lt4 lt5 lt6

theorem All2.at_ {α β : Type} {Q : α → β → Prop} : ∀ {l : List α} {m : List β} {i : Nat} {b : β}, All2 Q l m → m[i]? = some b → ∃ a, l[i]? = some a ∧ Q a b
  | [], [], i, b, _, h => by simp at h
  | _ :: _, _ :: _, 0, b, h, hi => by simp at hi; subst hi; exact ⟨_, rfl, h.1⟩
  | _ :: l, _ :: m, i + 1, b, h, hi => by
    simp at hi
    obtain ⟨a, h1, h2⟩ := All2.at_ h.2 hi
    exact ⟨a, by simpa using h1, h2⟩
  | [], _ :: _, _, _, h, _ => h.elim
  | _ :: _, [], _, _, h, _ => h.elim
theorem All2.forall_left {α β : Type} {Q : α → β → Prop} {R : α → Prop} (hR : ∀ a b, Q a b → R a) : ∀ {l : List α} {m : List β}, All2 Q l m → ∀ a ∈ l, R a
  | [], [], _, a, h => by simp at h
  | _ :: _, _ :: _, h, a, ha => by
    rcases List.mem_cons.1 ha with rfl | ha
    · exact hR _ _ h.1
    · exact All2.forall_left hR h.2 a ha
  | [], _ :: _, h, _, _ => h.elim
  | _ :: _, [], h, _, _ => h.elim

/-- a page's cells in the reference's row -/
theorem RefAt.page_at {w : World} {base rb : Nat} {S : NetSt} {log : List ByteArray} {vp vf vl : Value} (h : RefAt w base rb S log vp vf vl) {i : Nat} {p : ByteArray × List UInt8} (hi : S.pages[i]? = some p) :
    ∃ g cp v, vp = .slice (some ⟨g, 0, none⟩) S.pages.length cp ∧ w.cell? ⟨g, i * 2, none⟩ = some (.string p.1) ∧ w.cell? ⟨g, i * 2 + 1, none⟩ = some v ∧ RData w v p.2 ∧ p.1.size ≤ 1048576 := by
  obtain ⟨cs, h1, h2⟩ := h.pages
  obtain ⟨c, hc, v, rfl, hv, hs⟩ := h1.at_ hi
  have hl : ∀ c ∈ cs, c.length = 2 := h1.forall_left fun c p hh => by obtain ⟨v, rfl, _⟩ := hh; rfl
  obtain ⟨A, cap, rfl, hn, hA, _, _⟩ := own_form h2
  have hlt := (List.getElem?_eq_some_iff.1 hi).1
  cases A with
  | none => have := (hn rfl).1; omega
  | some a =>
    obtain ⟨g, rfl⟩ := hA a rfl
    refine ⟨g, cap, v, rfl, own_cell h2 ?_, own_cell h2 ?_, hv, hs⟩
    · rw [show i * 2 = i * 2 + 0 by omega, flat_at hl hc (by omega)]; rfl
    · rw [flat_at hl hc (by omega)]; rfl
/-- a fault's cells in the reference's row -/
theorem RefAt.fault_at {w : World} {base rb : Nat} {S : NetSt} {log : List ByteArray} {vp vf vl : Value} (h : RefAt w base rb S log vp vf vl) {i : Nat} {f : (ByteArray × Int) × PFault} (hi : S.faults[i]? = some f) :
    ∃ g cp v, vf = .slice (some ⟨g, 0, none⟩) S.faults.length cp ∧ (∀ j, j < 5 → w.cell? ⟨g, i * 5 + j, none⟩ = (#[.string f.2.u, .int .i64 f.2.att, .int .i64 f.2.kind, .int .i64 f.2.n, v] : Array Value)[j]?) ∧ RData w v f.2.data ∧ f.1 = (f.2.u, f.2.att) ∧ f.2.u.size ≤ 1048576 := by
  obtain ⟨cs, h1, h2⟩ := h.faults
  obtain ⟨c, hc, v, rfl, hv, hs⟩ := h1.at_ hi
  have hl : ∀ c ∈ cs, c.length = 5 := h1.forall_left fun c p hh => by obtain ⟨v, rfl, _⟩ := hh; rfl
  obtain ⟨A, cap, rfl, hn, hA, _, _⟩ := own_form h2
  have hlt := (List.getElem?_eq_some_iff.1 hi).1
  cases A with
  | none => have := (hn rfl).1; omega
  | some a =>
    obtain ⟨g, rfl⟩ := hA a rfl
    refine ⟨g, cap, v, rfl, fun j hj => ?_, hv, hs⟩
    have he : (#[Value.string f.2.u, .int .i64 f.2.att, .int .i64 f.2.kind, .int .i64 f.2.n, v] : Array Value)[j]? = some ((#[Value.string f.2.u, .int .i64 f.2.att, .int .i64 f.2.kind, .int .i64 f.2.n, v] : Array Value)[j]'(by simpa using hj)) := Array.getElem?_eq_getElem _
    rw [he]
    refine own_cell h2 ?_
    rw [flat_at hl hc hj]
    exact List.getElem?_eq_getElem (l := [Value.string f.2.u, .int .i64 f.2.att, .int .i64 f.2.kind, .int .i64 f.2.n, v]) (i := j) (by simpa using hj)
theorem RefAt.log_at {w : World} {base rb : Nat} {S : NetSt} {log : List ByteArray} {vp vf vl : Value} (h : RefAt w base rb S log vp vf vl) {i : Nat} {s : ByteArray} (hi : log[i]? = some s) :
    ∃ g cp, vl = .slice (some ⟨g, 0, none⟩) log.length cp ∧ w.cell? ⟨g, i, none⟩ = some (.string s) := by
  obtain ⟨A, cap, rfl, hn, hA, _, _⟩ := own_form h.lrow
  have hlt := (List.getElem?_eq_some_iff.1 hi).1
  cases A with
  | none => have := (hn rfl).1; omega
  | some a =>
    obtain ⟨g, rfl⟩ := hA a rfl
    exact ⟨g, cap, rfl, own_cell h.lrow (by rw [List.getElem?_map, hi]; rfl)⟩

/-- the place of a key -/
def IdxOf {α : Type} (m : List (ByteArray × α)) (u : ByteArray) (r : Int) : Prop :=
  (∃ i p, m[i]? = some p ∧ p.1 = u ∧ (∀ (j : Nat) q, j < i → m[j]? = some q → q.1 ≠ u) ∧ r = i) ∨ ((∀ p ∈ m, p.1 ≠ u) ∧ r = -1)
def PageRel (w : World) (m : List (ByteArray × List UInt8)) (u : ByteArray) (iv : Value) (wr : World) : Prop :=
  ∃ i n : Nat, i ≤ m.length ∧ (∀ (j : Nat) q, j < i → m[j]? = some q → q.1 ≠ u) ∧ iv = .int .i64 i ∧ wr = w.drewN n

set_option maxHeartbeats 1000000 in
set_option maxRecDepth 100000 in
theorem page_any (w : World) (base rb : Nat) (S : NetSt) (log : List ByteArray) (vp vf vl : Value) (u : ByteArray) (h : RefAt w base rb S log vp vf vl) :
    Calls Try.prog 38 #[.pointer (some ⟨rb, 0, none⟩), .string u] w fun e w' => ∃ r, e = .returned (.int .i64 r) ∧ IdxOf S.pages u r ∧ ∃ n, w' = w.drewN n := by
  have H := Lib.hid h
  have c := blk_cells h.blk
  obtain ⟨cs, h1, h2⟩ := h.pages
  obtain ⟨A, cap, rfl, hn, hA, hnc, hcm⟩ := own_form h2
  have hlen : S.pages.length ≤ 9223372036854775807 := by unfold maxLen at hcm; omega
  clear h h1 h2 hn hA hcm hnc
  go_enter Try.func38, Try.ntmps38
  go_wp2_with fail
  go_loopw [5] (fun iv wr => PageRel w S.pages u iv wr) (fun iv _ => S.pages.length - (intOf iv).toNat)
  case atStart => exact ⟨0, 0, by omega, by omega, rfl, rfl⟩
  case round =>
    obtain ⟨i, n, hi, hb, rfl, rfl⟩ := hrel
    have Hb := Lib.hid hb
    clear hb
    by_cases hlt : i < S.pages.length
    · obtain ⟨p, hp⟩ : ∃ p, S.pages[i]? = some p := ⟨_, List.getElem?_eq_getElem hlt⟩
      obtain ⟨g, cp, v, he, g0, _⟩ := H.out.page_at hp
      simp only [Value.slice.injEq] at he
      obtain ⟨rfl, _, rfl⟩ := he
      have Hp := Lib.hid hp
      have hseq := str_eq p.1 u
      clear hp
      cases hs : decide (p.1 = u)
      all_goals
        rw [hs] at hseq
        have Hs := Lib.hid hs
        clear hs
        go_wp2_with fail
      · go_roundw
        case rel =>
          refine ⟨i + 1, n, by omega, fun j q hj hq => ?_, by go_num, rfl⟩
          by_cases hji : j < i
          · exact Hb.out j q hji hq
          · obtain rfl : j = i := by omega
            rw [Hp.out] at hq
            cases hq
            exact of_decide_eq_false Hs.out
        case measure => simp [intOf]; omega
      · go_ret
        exact ⟨_, rfl, .inl ⟨i, p, Hp.out, of_decide_eq_true Hs.out, Hb.out, rfl⟩, n, rfl⟩
    · go_wp2_with fail
      go_ret
      refine ⟨_, rfl, .inr ⟨fun p hp => ?_, rfl⟩, n, rfl⟩
      obtain ⟨j, hj⟩ := List.getElem?_of_mem hp
      exact Hb.out j p (by have := (List.getElem?_eq_some_iff.1 hj).1; omega) hj

/-- how often u stands in the log -/
def cnt (l : List ByteArray) (u : ByteArray) : Nat := (l.filter fun s => decide (s = u)).length
theorem cnt_le (l : List ByteArray) (u : ByteArray) : cnt l u ≤ l.length := List.length_filter_le _ _
theorem cnt_append (l m : List ByteArray) (u : ByteArray) : cnt (l ++ m) u = cnt l u + cnt m u := by simp [cnt, List.filter_append]
theorem cnt_one (s u : ByteArray) : cnt [s] u = if s = u then 1 else 0 := by
  unfold cnt
  rw [List.filter_cons]
  by_cases h : s = u <;> simp [h]
theorem count_snoc {l : List ByteArray} {i : Nat} {s u : ByteArray} (h : l[i]? = some s) : cnt (l.take (i + 1)) u = cnt (l.take i) u + if s = u then 1 else 0 := by
  rw [List.take_add_one, h, cnt_append, ← cnt_one]
  rfl
def AskRel (w : World) (log : List ByteArray) (u : ByteArray) (kv iv : Value) (wr : World) : Prop :=
  ∃ i n : Nat, i ≤ log.length ∧ kv = .int .i64 (cnt (log.take i) u : Nat) ∧ iv = .int .i64 i ∧ wr = w.drewN n

set_option maxHeartbeats 1000000 in
set_option maxRecDepth 100000 in
theorem asks_any (w : World) (base rb : Nat) (S : NetSt) (log : List ByteArray) (vp vf vl : Value) (u : ByteArray) (h : RefAt w base rb S log vp vf vl) :
    Calls Try.prog 29 #[.pointer (some ⟨rb, 0, none⟩), .string u] w fun e w' => e = .returned (.int .i64 (cnt log u : Nat)) ∧ ∃ n, w' = w.drewN n := by
  have H := Lib.hid h
  have c := blk_cells h.blk
  have h2 := h.lrow
  obtain ⟨A, cap, rfl, hn, hA, hnc, hcm⟩ := own_form h2
  have hlen : log.length ≤ 9223372036854775807 := by unfold maxLen at hcm; omega
  clear h h2 hn hA hcm hnc
  go_enter Try.func29, Try.ntmps29
  go_wp2_with fail
  go_loopw [5, 6] (fun kv iv wr => AskRel w log u kv iv wr) (fun _ iv _ => log.length - (intOf iv).toNat)
  case atStart => exact ⟨0, 0, by omega, rfl, rfl, rfl⟩
  case round =>
    obtain ⟨i, n, hi, rfl, rfl, rfl⟩ := hrel
    by_cases hlt : i < log.length
    · obtain ⟨s, hs⟩ : ∃ s, log[i]? = some s := ⟨_, List.getElem?_eq_getElem hlt⟩
      obtain ⟨g, cp, he, g0⟩ := H.out.log_at hs
      simp only [Value.slice.injEq] at he
      obtain ⟨rfl, _, rfl⟩ := he
      have hc := count_snoc (u := u) hs
      have hle : cnt (log.take i) u ≤ i := by
        have := cnt_le (log.take i) u
        simp at this
        omega
      have Hc := Lib.hid hc
      clear hs hc
      generalize cnt (log.take i) u = k at *
      have hseq := str_eq s u
      have hc2 : cnt (log.take (i + 1)) u = k + (if decide (s = u) = true then 1 else 0) := by rw [Hc.out]; simp
      have Hc2 := Lib.hid hc2
      clear hc2
      cases hsu : decide (s = u)
      all_goals
        rw [hsu] at hseq
        go_wp2_with fail
        go_roundw
        case rel =>
          have h1 := Hc2.out
          rw [hsu] at h1
          simp at h1
          exact ⟨i + 1, n, by omega, by first | (rw [h1]; done) | (rw [h1]; go_num), by go_num, rfl⟩
        case measure => simp [intOf]; omega
    · have ht : log.take i = log := List.take_of_length_le (by omega)
      rw [ht]
      go_wp2_with fail
      go_ret
      exact ⟨rfl, n, rfl⟩
end Go.Proofs.Ytpblaclhfcomeaa
